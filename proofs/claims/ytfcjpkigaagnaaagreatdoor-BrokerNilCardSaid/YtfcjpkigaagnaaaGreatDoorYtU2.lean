import Derived.Test.YtfcjpkigaagnaaaGreatDoorYtU
set_option linter.unusedVariables false
namespace Go.Ev
open Go Go.RowKit Go.Proofs Go.Proofs.YtfcjpkigaagnaaaGreatDoor
noncomputable def usedSum : List MapEntry → Nat → E Nat
  | [], n => pure n
  | e :: es, n => do
    let (x, off) ← opt (place e.val)
    let (c, _) ← rdCells x
    match c[off]? with
    | some (.slice _ k _) => usedSum es (n + k)
    | _ => fail
def distinct : List Nat → Bool
  | [] => true
  | a :: l => !(among l a) && distinct l
noncomputable def natUsed : List Value → E Value
  | [d] => do
    let (x, off) ← opt (place d)
    let (c, _) ← rdCells x
    match c[off + 1]? with
    | some (.map (some r)) => do
      let (es, k) ← rdMap r
      bif es.all (fun e => Nat.blt e.born k) && distinct (es.map (·.born)) then do
        let n ← usedSum es 0
        bif Nat.blt n 1000000000 then pure (.int .i64 (.ofNat n)) else fail
      else fail
    | _ => fail
  | _ => fail
theorem Fr.usedSum : ∀ (es : List MapEntry) (n : Nat), Fr (Go.Ev.usedSum es n)
  | [], n => by unfold Go.Ev.usedSum; exact Fr.pure _
  | e :: es, n => by
    have ih := Fr.usedSum es
    unfold Go.Ev.usedSum
    (repeat' (first | exact Fr.pure _ | exact Fr.fail | exact Fr.opt _ | exact Fr.rdCells _ | exact ih _ | apply Fr.bind | intro _ | split))
theorem Fr.natUsed (vs : List Value) : Fr (Go.Ev.natUsed vs) := by
  unfold Go.Ev.natUsed
  (repeat' (first | exact Fr.pure _ | exact Fr.fail | exact Fr.opt _ | exact Fr.rdCells _ | exact Fr.rdMap _ | exact Fr.usedSum _ _ | apply Fr.cond | apply Fr.bind | intro _ | split))
theorem distinct_nodup : ∀ l : List Nat, distinct l = true → l.Nodup
  | [], _ => List.nodup_nil
  | a :: l, h => by
    unfold distinct at h
    rw [Bool.and_eq_true] at h
    refine List.nodup_cons.2 ⟨fun hm => ?_, distinct_nodup l h.2⟩
    have : among l a = true := by
      clear h
      induction l with
      | nil => cases hm
      | cons b l ih =>
        show (Nat.beq b a || among l a) = true
        rcases List.mem_cons.1 hm with rfl | hm
        · rw [Nat.beq_refl]; rfl
        · rw [ih hm]; simp
    rw [this] at h
    exact absurd h.1 (by simp)
/-- The length of the slice that a file starts with. -/
def lenAt (w : World) (x : MapEntry) : Nat :=
  match x.val with
  | .pointer (some a) => match w.cell? a with
    | some (.slice _ n _) => n
    | _ => 0
  | _ => 0
section
variable {P : Program} {ω : Nat → Value} {B : Nat} {W0 : World} {μ : Mp} {w : World}
theorem usedSum_ok : ∀ (es es' : List MapEntry) (n m : Nat) (s s' : St), usedSum es n s = some (m, s') → Rel ω B W0 μ s.heap w → ERs ω μ es es' →
    s' = s ∧ (m : Int) = n + (es'.map fun e => (lenAt w e : Int)).sum ∧ ∀ x ∈ es', ∃ y p a k, x.val = .pointer (some ⟨y, p, none⟩) ∧ w.cell? ⟨y, p, none⟩ = some (.slice a (lenAt w x) k)
  | [], es', n, m, s, s', h, hR, he => by
    unfold usedSum at h
    obtain ⟨rfl, rfl⟩ := pure_inv h
    have := ERs.zero he
    subst this
    exact ⟨rfl, by simp, fun x hx => by cases hx⟩
  | e :: es, es', n, m, s, s', h, hR, he => by
    unfold usedSum at h
    obtain ⟨⟨x, off⟩, s1, h1, h2⟩ := bind_inv h
    obtain ⟨hp, rfl⟩ := opt_inv h1
    obtain ⟨⟨c, ce⟩, s2, h3, h4⟩ := bind_inv h2
    obtain ⟨rfl, hm, hg⟩ := rdCells_inv h3
    dsimp only at h4 hg
    cases es' with
    | nil => have := he.1; simp at this
    | cons e' es' =>
      obtain ⟨⟨q1, q2, q3⟩, q4⟩ := he.tail
      obtain ⟨mm, hmm, hh⟩ := app h4
      clear h4
      split at hmm <;> subst hmm
      case h_2 => cases hh
      rename_i sa k z hck
      obtain ⟨rfl, hsum, hall⟩ := usedSum_ok es es' (n + k) m _ s' hh hR q4
      rw [place_inv hp] at q3
      obtain ⟨l0, hl0, ho⟩ := hR.cells hg
      obtain ⟨u, hu, hv⟩ := ho.2.2 off _ hck
      generalize hev : e'.val = ev at q3
      cases q3 with
      | ptr _ _ l hl =>
        have e0 : l0 = l := by rw [hl] at hl0; cases hl0; rfl
        subst e0
        have hu' : ∃ a k', u = .slice a k k' := by cases hv <;> exact ⟨_, _, rfl⟩
        obtain ⟨a, k', rfl⟩ := hu'
        have hlen : lenAt w e' = k := by unfold lenAt; rw [hev]; dsimp only; rw [hu]
        refine ⟨rfl, ?_, fun x hx => ?_⟩
        · rw [List.map_cons, List.sum_cons, hlen, hsum]; omega
        · rcases List.mem_cons.1 hx with rfl | hx
          · exact ⟨_, _, a, k', hev, by rw [hlen]; exact hu⟩
          · exact hall x hx
/-- More blocks, and no elder one has turned. -/
theorem Rel.more {H : T AObj} {w' : World} (h : Rel ω B W0 μ H w) (hos : w'.os = w.os) (htp : w'.tape = w.tape) (hou : w'.output = w.output) (hsz : w.heap.size ≤ w'.heap.size) (hb : ∀ b, b < w.heap.size → w'.heap[b]? = w.heap[b]?) : Rel ω B W0 μ H w' := by
  refine ⟨fun x o hx ho => ?_, h.inj, h.own, h.glob, h.base, ?_⟩
  · obtain ⟨l, hl, hr⟩ := h.obj x o hx ho
    exact ⟨l, hl, hr.block (hb _ (h.blk_lt hx ho hl))⟩
  · exact ⟨hos.trans h.below.os, htp.trans h.below.tape, hou.trans h.below.output, Nat.le_trans h.below.size hsz, fun k hk => (hb k (by have := h.size; omega)).trans (h.below.block k hk)⟩
set_option maxRecDepth 100000 in
theorem natUsed_ok : NatOk Tryz.prog ω B W0 442 natUsed := by
  intro vs s v s' h μ w ras hR hbd h4 hfr hvs
  unfold natUsed at h
  obtain ⟨mm, hmm, hh⟩ := app h
  clear h
  split at hmm <;> subst hmm
  case h_2 => cases hh
  rename_i d
  obtain ⟨⟨x, off⟩, s1, h1, h2⟩ := bind_inv hh
  obtain ⟨hp, rfl⟩ := opt_inv h1
  obtain ⟨⟨c, ce⟩, s2, h3, h4'⟩ := bind_inv h2
  obtain ⟨rfl, hm, hg⟩ := rdCells_inv h3
  dsimp only at h4' hg
  obtain ⟨mm, hmm, hh⟩ := app h4'
  clear h4'
  split at hmm <;> subst hmm
  case h_2 => cases hh
  rename_i r hcr
  obtain ⟨⟨es, k⟩, s3, h5, h6⟩ := bind_inv hh
  obtain ⟨rfl, hm2, hg2⟩ := rdMap_inv h5
  dsimp only at h6 hg2
  obtain ⟨hchk, h7⟩ := guard_inv' h6
  obtain ⟨n, s4, h8, h9⟩ := bind_inv h7
  obtain ⟨hn, h10⟩ := guard_inv' h9
  have hlen := hvs.1
  obtain ⟨d', rfl⟩ : ∃ d', ras = [d'] := by
    match ras, hlen with
    | [d'], _ => exact ⟨d', rfl⟩
  have hd : VR ω μ d d' := hvs.2 0 _ _ rfl rfl
  rw [place_inv hp] at hd
  cases hd with
  | ptr _ _ l hl =>
  obtain ⟨l0, hl0, ho⟩ := hR.cells hg
  have e0 : l0 = l := by rw [hl] at hl0; cases hl0; rfl
  subst e0
  obtain ⟨u, hu, hv⟩ := ho.2.2 (off + 1) _ hcr
  cases hv with
  | map _ lm hlm =>
  obtain ⟨lm', es', hlm', hbm, hers⟩ := hR.map hg2
  have e1 : lm' = lm := by rw [hlm] at hlm'; cases hlm'; rfl
  subst e1
  obtain ⟨rfl, hsum, hall⟩ := usedSum_ok es es'.toList 0 n _ s4 h8 hR hers
  obtain ⟨rfl, rfl⟩ := pure_inv h10
  rw [Bool.and_eq_true] at hchk
  have hborn : es'.toList.map (·.born) = es.map (·.born) := by
    refine List.ext_getElem? fun i => ?_
    rw [List.getElem?_map, List.getElem?_map]
    by_cases hi : i < es.length
    · have hi' : i < es'.toList.length := by rw [← hers.1]; exact hi
      rw [List.getElem?_eq_getElem hi, List.getElem?_eq_getElem hi']
      have := (hers.2 i _ _ (List.getElem?_eq_getElem hi) (List.getElem?_eq_getElem hi')).2.1
      simp only [Option.map_some, this]
    · have hle := hers.1
      rw [List.getElem?_eq_none (by omega : es'.toList.length ≤ i), List.getElem?_eq_none (by omega : es.length ≤ i)]
  have hst : (∀ x ∈ es'.toList, x.born < k) ∧ (es'.toList.map (·.born)).Nodup := by
    refine ⟨fun x hx => ?_, by rw [hborn]; exact distinct_nodup _ hchk.2⟩
    have hx2 : x.born ∈ es'.toList.map (·.born) := List.mem_map.2 ⟨x, hx, rfl⟩
    rw [hborn] at hx2
    obtain ⟨y, hy, hyb⟩ := List.mem_map.1 hx2
    have := List.all_eq_true.1 hchk.1 y hy
    have := Nat.le_of_ble_eq_true this
    omega
  have hnb : n < 1000000000 := Nat.le_of_ble_eq_true hn
  have hcalls := used_any l0.blk (l0.off + off) lm'.blk es' k w (lenAt w) (by rw [Nat.add_assoc]; exact hu) hbm hst hall (by omega)
  refine callR_enter Tryz.func442 (by kernel_rfl) (by rfl) (hcalls.mono fun e w' ⟨he, w1, seen, ⟨hal, htp⟩, hw⟩ => ?_)
  subst he; subst hw
  have hsm : (es'.toList.map fun e => (lenAt w e : Int)).sum = (n : Int) := by omega
  rw [hsm]
  refine ⟨μ, Ext.refl _ _ _, hR.more ?_ ?_ ?_ ?_ ?_, .int _ _⟩
  · exact hal.2.1
  · exact htp
  · exact hal.2.2
  · show w.heap.size ≤ (w1.heap.push _).size
    rw [Array.size_push, hal.1]; omega
  · intro b hb
    show (w1.heap.push _)[b]? = _
    rw [hal.1, Array.getElem?_push_lt hb, Array.getElem?_eq_getElem hb]
end
end Go.Ev
