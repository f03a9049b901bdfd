/- PART EvQ8 of a proof by an evaluator of the model that is proved sound. -/
import Derived.Test.YtkaeneplpelgeaaGreatDoorEvQ7
set_option linter.unusedVariables false
set_option linter.unusedSimpArgs false
namespace Go.Ev
open Go Go.RowKit
section ops
variable {P : Program} {ω : Nat → Value} {B : Nat} {W0 : World} {μ : Mp} {w : World} {s s' : St} {call : FuncId → List Value → E Value} {ρ ρ' : Operand → Value}
theorem run_set {r : Nat} {o o' : Obj} (h : w.heap[r]? = some o) (hc : ∀ c e f, o ≠ .cells c e f) : (setObj r o').run P w = .ok () { w with heap := w.heap.setIfInBounds r o' } := by
  simp only [setObj, Sem.run, h]
theorem heap_set_self {r : Nat} {o o' : Obj} (h : w.heap[r]? = some o) : (w.heap.setIfInBounds r o')[r]? = some o' := by
  have hlt : r < w.heap.size := (Array.getElem?_eq_some_iff.1 h).1
  rw [Array.getElem?_setIfInBounds]; simp [hlt]
theorem heap_set_other {r b : Nat} {o' : Obj} (h : b ≠ r) : (w.heap.setIfInBounds r o')[b]? = w.heap[b]? := by
  rw [Array.getElem?_setIfInBounds]; rw [if_neg (fun e => h e.symm)]
/-- A map, or an iterator, has turned. -/
theorem Rel.setObj (hR : Rel ω B W0 μ s.heap w) {x : Nat} {o o' : AObj} {R R' : Obj} {l : Loc} (h4 : 4096 ≤ x) (hx : s.heap.get x = some o) (ho : o ≠ .dead) (hl : μ x = some l) (hb : w.heap[l.blk]? = some R)
    (hnew : ObjR ω μ { w with heap := w.heap.setIfInBounds l.blk R' } l o') : Rel ω B W0 μ (s.heap.set x o') { w with heap := w.heap.setIfInBounds l.blk R' } :=
  hR.turn h4 hx ho hl rfl rfl rfl (by simp) (fun b _ hb => heap_set_other hb) (fun _ => hnew)
theorem ObjR.map_of {l : Loc} {es : List MapEntry} {es' : Array MapEntry} {k : Nat} (hb : w.heap[l.blk]? = some (.map es' k)) (h : ERs ω μ es es'.toList) : ObjR ω μ w l (.map es k) :=
  ⟨es', hb, by simpa using h.1, fun i e e' h1 h2 => h.2 i e e' h1 (by simpa using h2)⟩
theorem ERs.push {a b : List MapEntry} (h : ERs ω μ a b) {e e' : MapEntry} (he : e.key = e'.key ∧ e.born = e'.born ∧ VR ω μ e.val e'.val) : ERs ω μ (a ++ [e]) (b ++ [e']) := by
  refine ⟨by simp [h.1], fun i x y ex ey => ?_⟩
  rw [List.getElem?_append] at ex ey
  rw [← h.1] at ey
  split at ex
  · rename_i hlt; rw [if_pos hlt] at ey; exact h.2 i x y ex ey
  · rename_i hlt
    rw [if_neg hlt] at ey
    cases hi : i - a.length with
    | zero => rw [hi] at ex ey; cases ex; cases ey; exact he
    | succ n => rw [hi] at ex; simp at ex
theorem ERs.modify {a b : List MapEntry} (h : ERs ω μ a b) (j : Nat) (f g : MapEntry → MapEntry) (hfg : ∀ e e' : MapEntry, (e.key = e'.key ∧ e.born = e'.born ∧ VR ω μ e.val e'.val) → ((f e).key = (g e').key ∧ (f e).born = (g e').born ∧ VR ω μ (f e).val (g e').val)) :
    ERs ω μ (a.modify j f) (b.modify j g) := by
  refine ⟨by simp [h.1], fun i x y ex ey => ?_⟩
  rw [List.getElem?_modify] at ex ey
  cases hx : a[i]? with
  | none => rw [hx] at ex; cases ex
  | some e =>
    cases hy : b[i]? with
    | none => rw [hy] at ey; cases ey
    | some e' =>
      rw [hx] at ex; rw [hy] at ey
      have := h.2 i e e' hx hy
      by_cases hij : j = i
      · simp [hij] at ex ey; subst ex; subst ey; exact hfg _ _ this
      · simp [hij] at ex ey; subst ex; subst ey; exact this
theorem ERs.erase {a b : List MapEntry} (h : ERs ω μ a b) (j : Nat) : ERs ω μ (a.eraseIdx j) (b.eraseIdx j) := by
  refine ⟨by simp [List.length_eraseIdx, h.1], fun i x y ex ey => ?_⟩
  rw [List.getElem?_eraseIdx] at ex ey
  split at ex
  · rename_i hlt; rw [if_pos hlt] at ey; exact h.2 i x y ex ey
  · rename_i hlt; rw [if_neg hlt] at ey; exact h.2 _ x y ex ey
theorem bytes_eq {a b : ByteArray} (h : (a == b) = true) : a = b := by
  obtain ⟨x⟩ := a
  obtain ⟨y⟩ := b
  have h' : (x == y) = true := h
  rw [eq_of_beq h']
theorem bytes_beq (a : ByteArray) : (a == a) = true := by
  obtain ⟨x⟩ := a
  show (x == x) = true
  exact beq_self_eq_true x
theorem sameNow_eq {kind : TypeDesc} {k k' : Value} (h : Instr.sameNow kind k k' = some true) : k' = k ∧ keyVal k = true := by
  unfold Instr.sameNow at h
  split at h
  · rename_i k1 a k2 b
    split at h
    · rename_i e; subst e
      simp at h; subst h; exact ⟨rfl, rfl⟩
    · cases h
  · have := bytes_eq (Option.some.inj h); subst this; exact ⟨rfl, rfl⟩
  · simp at h; subst h; exact ⟨rfl, rfl⟩
  · cases h
theorem findNow_at {kind : TypeDesc} {k : Value} : ∀ {a : List MapEntry} {i j : Nat} {v : Value}, Instr.findNow kind k a i = some (some (j, v)) → i ≤ j ∧ ∃ e, a[j - i]? = some e ∧ e.key = k ∧ e.val = v := by
  intro a
  induction a with
  | nil => intro i j v h; simp [Instr.findNow] at h
  | cons e a ih =>
    intro i j v h
    simp only [Instr.findNow] at h
    cases hn : Instr.sameNow kind k e.key with
    | none => rw [hn] at h; cases h
    | some t =>
      rw [hn] at h
      cases t with
      | true =>
        simp only [Option.some.injEq, Prod.mk.injEq] at h
        obtain ⟨rfl, rfl⟩ := h
        exact ⟨Nat.le_refl _, e, by simp, (sameNow_eq hn).1, rfl⟩
      | false =>
        obtain ⟨h1, e', h2, h3, h4⟩ := ih h
        refine ⟨by omega, e', ?_, h3, h4⟩
        rw [show j - i = (j - (i + 1)) + 1 by omega]
        simpa using h2
theorem stays {k : Value} (h : keyVal k = true) : (Instr.keyThatStays k k).run P w = .ok k w := by
  unfold Instr.keyThatStays
  have : Instr.sameBits 10000 k k = true := by
    unfold keyVal at h
    split at h
    · simp [Instr.sameBits]
    · simp only [Instr.sameBits]; exact bytes_beq _
    · simp [Instr.sameBits]
    · cases h
  rw [this]
  rfl
theorem armMapUpdate_ok {t : TypeId} {m k v : Operand} {u : Value} (h : armMapUpdate t m k v P call ρ s = some (u, s')) (hρ : ∀ x, VR ω μ (ρ x) (ρ' x)) (hR : Rel ω B W0 μ s.heap w) :
    s'.next = s.next ∧ u = undef ∧ Gives P (Instr.mapUpdate t (ρ' m) (ρ' k) (ρ' v)) w fun _ w' => Rel ω B W0 μ s'.heap w' := by
  unfold armMapUpdate at h
  obtain ⟨⟨kind, e⟩, s1, h1, h2⟩ := bind_inv h
  obtain ⟨hmt, rfl⟩ := opt_inv h1
  dsimp only at h2
  obtain ⟨mm, hmm, hh⟩ := app h2
  clear h2
  have hmv := hρ m
  split at hmm <;> subst hmm
  · rename_i r hrm
    obtain ⟨⟨es, clock⟩, s2, h3, h4⟩ := bind_inv hh
    obtain ⟨rfl, hmk, hg⟩ := rdMap_inv h3
    dsimp only at h4 hg
    obtain ⟨found, s3, h5, h6⟩ := bind_inv h4
    obtain ⟨hf, rfl⟩ := opt_inv h5
    obtain ⟨hkv, hfn⟩ := found_inv hf
    obtain ⟨key, hu1, hu2, hkk⟩ := mapTypes_inv hmt
    have hk := VR.flat (keyVal_flat hkv) (hρ k)
    obtain ⟨l, es', hl, hb, hers⟩ := hR.map hg
    obtain ⟨r', hr', hrel⟩ := findNow_ok hers hfn
    rw [hrm] at hmv
    generalize ρ' m = um at hmv ⊢
    cases hmv with
    | map _ l' hl' =>
      have e0 : l' = l := by rw [hl'] at hl; cases hl; rfl
      subst e0
      have hck := checkKey_run (P := P) (w := w) false hu2 hkk hkv
      have hfk := findKey_run (w := w) hu2 hr'
      rw [hk]
      obtain ⟨mm, hmm, hh⟩ := app h6
      clear h6
      split at hmm <;> subst hmm
      · rename_i j v0
        obtain ⟨_, s4, h7, h8⟩ := bind_inv hh
        obtain ⟨rfl, h4096, _, _⟩ := wr_eq h7
        obtain ⟨rfl, rfl⟩ := pure_inv h8
        cases r' with
        | none => exact hrel.elim
        | some p =>
          obtain ⟨j', v'⟩ := p
          obtain ⟨rfl, _, _, _⟩ := hrel
          obtain ⟨_, e1, he1, he2, _⟩ := findNow_at hr'
          have he1' : es'[j]? = some e1 := by simpa using he1
          refine ⟨rfl, rfl, Gives.of_run (a := ()) (w' := { w with heap := w.heap.setIfInBounds l'.blk (.map (es'.modify j fun e => { e with key := ρ k, val := ρ' v }) clock) }) ?_ ?_⟩
          · unfold Instr.mapUpdate
            rw [Sem.run_bind, run_und w hu1, Result.andThen_ok]
            simp only [Sem.run_bind, run_getMap hb, Result.andThen_ok, hck]
            rw [hfk, Result.andThen_ok]
            simp only [Sem.run_bind, he1', Option.map_some, Option.getD_some, he2, stays hkv, Result.andThen_ok]
            exact run_set hb (by simp)
          · refine hR.setObj h4096 hg (by simp) hl hb (ObjR.map_of (es' := es'.modify j fun e => { e with key := ρ k, val := ρ' v }) (heap_set_self hb) ?_)
            rw [Array.toList_modify]
            exact hers.modify j _ _ (fun e e' h => ⟨rfl, h.2.1, hρ v⟩)
      · obtain ⟨_, s4, h7, h8⟩ := bind_inv hh
        obtain ⟨rfl, h4096, _, _⟩ := wr_eq h7
        obtain ⟨rfl, rfl⟩ := pure_inv h8
        cases r' with
        | some p => exact hrel.elim
        | none =>
          refine ⟨rfl, rfl, Gives.of_run (a := ()) (w' := { w with heap := w.heap.setIfInBounds l'.blk (.map (es'.push { key := ρ k, val := ρ' v, born := clock }) (clock + 1)) }) ?_ ?_⟩
          · unfold Instr.mapUpdate
            rw [Sem.run_bind, run_und w hu1, Result.andThen_ok]
            simp only [Sem.run_bind, run_getMap hb, Result.andThen_ok, hck]
            rw [hfk, Result.andThen_ok]
            exact run_set hb (by simp)
          · refine hR.setObj h4096 hg (by simp) hl hb (ObjR.map_of (es' := es'.push { key := ρ k, val := ρ' v, born := clock }) (heap_set_self hb) ?_)
            rw [Array.toList_push]
            exact hers.push ⟨rfl, rfl, hρ v⟩
  · cases hh
theorem doDelete_ok {ts : Array TypeId} {ty : TypeId} {m k m' k' u : Value} (h : doDelete P ts m k s = some (u, s')) (hm : VR ω μ m m') (hk0 : VR ω μ k k') (hR : Rel ω B W0 μ s.heap w) :
    s'.next = s.next ∧ u = .tuple #[] ∧ Gives P (Builtin.delete_ ts ty #[m', k']) w fun v w' => v = .tuple #[] ∧ Rel ω B W0 μ s'.heap w' := by
  unfold doDelete at h
  obtain ⟨t, s0, h0, h00⟩ := bind_inv h
  obtain ⟨hts, rfl⟩ := opt_inv h0
  obtain ⟨⟨kind, e⟩, s1, h1, h2⟩ := bind_inv h00
  obtain ⟨hmt, rfl⟩ := opt_inv h1
  dsimp only at h2
  obtain ⟨mm, hmm, hh⟩ := app h2
  clear h2
  split at hmm <;> subst hmm
  · rename_i r
    obtain ⟨⟨es, clock⟩, s2, h3, h4⟩ := bind_inv hh
    obtain ⟨rfl, hmk, hg⟩ := rdMap_inv h3
    dsimp only at h4 hg
    obtain ⟨found, s3, h5, h6⟩ := bind_inv h4
    obtain ⟨hf, rfl⟩ := opt_inv h5
    obtain ⟨hkv, hfn⟩ := found_inv hf
    obtain ⟨key, hu1, hu2, hkk⟩ := mapTypes_inv hmt
    have hk := VR.flat (keyVal_flat hkv) hk0
    subst hk
    obtain ⟨l, es', hl, hb, hers⟩ := hR.map hg
    obtain ⟨r', hr', hrel⟩ := findNow_ok hers hfn
    cases hm with
    | map _ l' hl' =>
      have e0 : l' = l := by rw [hl'] at hl; cases hl; rfl
      subst e0
      have hck : ∀ b, (Instr.checkKey b 10000 key k').run P w = .ok () w := fun b => checkKey_run b hu2 hkk hkv
      have hfk := findKey_run (w := w) hu2 hr'
      obtain ⟨mm, hmm, hh⟩ := app h6
      clear h6
      split at hmm <;> subst hmm
      · rename_i j v0
        obtain ⟨_, s4, h7, h8⟩ := bind_inv hh
        obtain ⟨rfl, h4096, _, _⟩ := wr_eq h7
        obtain ⟨rfl, rfl⟩ := pure_inv h8
        cases r' with
        | none => exact hrel.elim
        | some p =>
          obtain ⟨j', v'⟩ := p
          obtain ⟨rfl, _, _, _⟩ := hrel
          refine ⟨rfl, rfl, Gives.of_run (a := .tuple #[]) (w' := { w with heap := w.heap.setIfInBounds l'.blk (.map (es'.eraseIdxIfInBounds j) clock) }) ?_ ⟨rfl, ?_⟩⟩
          · unfold Builtin.delete_
            simp only [hts, List.getElem?_toArray, List.getElem?_cons_zero, List.getElem?_cons_succ]
            rw [Sem.run_bind, run_und w hu1, Result.andThen_ok]
            simp only [Sem.run_bind, run_getMap hb, Result.andThen_ok, hck]
            rw [hfk, Result.andThen_ok]
            dsimp only
            rw [Sem.run_bind, run_set (P := P) hb (o' := .map (es'.eraseIdxIfInBounds j) clock) (by simp), Result.andThen_ok]
            rfl
          · refine hR.setObj h4096 hg (by simp) hl hb (ObjR.map_of (es' := es'.eraseIdxIfInBounds j) (heap_set_self hb) ?_)
            have : (es'.eraseIdxIfInBounds j).toList = es'.toList.eraseIdx j := by
              unfold Array.eraseIdxIfInBounds
              split
              · rw [Array.toList_eraseIdx]
              · rw [List.eraseIdx_of_length_le]; simp; omega
            rw [this]
            exact hers.erase j
      · obtain ⟨_, s4, h7, h8⟩ := bind_inv hh
        obtain ⟨rfl, h4096, _, _⟩ := wr_eq h7
        obtain ⟨rfl, rfl⟩ := pure_inv h8
        cases r' with
        | some p => exact hrel.elim
        | none =>
          refine ⟨rfl, rfl, Gives.of_run (a := .tuple #[]) (w' := { w with heap := w.heap.setIfInBounds l'.blk (.map es' clock) }) ?_ ⟨rfl, ?_⟩⟩
          · unfold Builtin.delete_
            simp only [hts, List.getElem?_toArray, List.getElem?_cons_zero, List.getElem?_cons_succ]
            rw [Sem.run_bind, run_und w hu1, Result.andThen_ok]
            simp only [Sem.run_bind, run_getMap hb, Result.andThen_ok, hck]
            rw [hfk, Result.andThen_ok]
            dsimp only
            rw [Sem.run_bind, run_set (P := P) hb (o' := .map es' clock) (by simp), Result.andThen_ok]
            rfl
          · exact hR.setObj h4096 hg (by simp) hl hb (ObjR.map_of (es' := es') (heap_set_self hb) hers)
  · cases hh
end ops
end Go.Ev
