/- PART EvS of a proof by an evaluator of the model that is proved sound. -/
import Derived.Test.YtfcjpkigaagnaaaGreatDoorEvQ
set_option linter.unusedSimpArgs false
set_option linter.unusedVariables false



namespace Go.Ev
open Go Go.RowKit
section ops
variable {P : Program} {ω : Nat → Value} {B : Nat} {W0 : World} {μ : Mp} {w : World} {s s' : St} {call : FuncId → List Value → E Value} {ρ ρ' : Operand → Value}
theorem loadCells_zero (a : Addr) : (loadCells a 0).run P w = .ok #[] w := rfl
/-- What is copied or appended. -/
theorem src_ok {z : Nat} {x x' : Value} {m : Nat} {new : List Value} (h : srcCells z x s = some ((m, new), s')) (hx : VR ω μ x x') (hR : Rel ω B W0 μ s.heap w) :
    s' = s ∧ new.length = m * z ∧ (Builtin.lenOf x').run P w = .ok m w ∧ ∃ us, VRs ω μ new us ∧ ∀ d, (Builtin.firstCells z m x').run P { w with drawn := d } = .ok us.toArray { w with drawn := d } := by
  unfold srcCells at h
  obtain ⟨mm, hmm, hh⟩ := app h
  clear h
  split at hmm <;> subst hmm
  · rename_i a n k
    rcases cond_inv hh with ⟨hn, h1⟩ | ⟨hn, h1⟩
    · have hn := Nat.eq_of_beq_eq_true hn
      subst hn
      obtain ⟨e, rfl⟩ := pure_inv h1
      cases e
      refine ⟨rfl, by simp, ?_, [], VRs.nil, fun d => ?_⟩
      · cases hx <;> rfl
      · cases hx <;> simp [Builtin.firstCells, loadCells_zero]
    · cases a with
      | none => cases h1
      | some ad =>
        obtain ⟨y, off, sp⟩ := ad
        cases sp with
        | some q => cases h1
        | none =>
          dsimp only at h1
          obtain ⟨⟨c, ce⟩, s1, h2, h3⟩ := bind_inv h1
          obtain ⟨rfl, hmk, hg⟩ := rdCells_inv h2
          dsimp only at h3 hg
          obtain ⟨cs, s2, h4, h5⟩ := bind_inv h3
          obtain ⟨htk, rfl⟩ := opt_inv h4
          obtain ⟨e, rfl⟩ := pure_inv h5
          cases e
          obtain ⟨htl, rfl⟩ := take_some htk
          obtain ⟨l0, hl0, ho⟩ := hR.cells hg
          cases hx with
          | slice _ _ _ _ k' l hl hk hr =>
            have e0 : l0 = l := by rw [hl] at hl0; cases hl0; rfl
            subst e0
            obtain ⟨us, hv, hcell⟩ := ho.piece htl
            have hlen : us.length = m * z := by rw [← hv.1]; simp; omega
            refine ⟨rfl, by rw [hv.1]; exact hlen, rfl, us, hv, fun d => ?_⟩
            have hload := run_loadCells_list (P := P) { w with drawn := d } ⟨l0.blk, l0.off + off, none⟩ us (fun j v hv => by rw [Addr.add_mid]; exact hcell j v hv)
            rw [hlen] at hload
            exact hload
          | sliceEmpty => simp at hn
  · rename_i b
    obtain ⟨hz, h1⟩ := guard_inv' hh
    have hz := Nat.eq_of_beq_eq_true hz
    subst hz
    obtain ⟨e, rfl⟩ := pure_inv h1
    cases e
    cases hx
    have hfl : (b.data.toList.map fun (b : UInt8) => Value.int .u8 b.toNat).all flat = true := by
      rw [List.all_eq_true]; intro v hv
      obtain ⟨x, _, rfl⟩ := List.mem_map.1 hv
      rfl
    refine ⟨rfl, by rw [List.length_map, Array.length_toList, Nat.mul_one]; rfl, rfl, _, VRs.refl_flat hfl, fun d => ?_⟩
    have : b.extract 0 b.size = b := by
      apply ByteArray.ext; simp
    simp only [Builtin.firstCells, this]
    show Result.ok _ _ = _
    congr 1
    apply Array.toList_inj.1
    simp
  · cases hh
theorem growBy_le (n : Nat) : ∀ r c, Builtin.growBy n r c ≤ 2 ^ r * (c + 768)
  | 0, c => by simp [Builtin.growBy]
  | r + 1, c => by
    unfold Builtin.growBy
    split
    · have : 1 ≤ 2 ^ (r + 1) := Nat.one_le_two_pow
      calc c ≤ 1 * (c + 768) := by omega
        _ ≤ 2 ^ (r + 1) * (c + 768) := Nat.mul_le_mul_right _ this
    · refine Nat.le_trans (growBy_le n r _) ?_
      have h1 : c + (c + 768) / 4 + 768 ≤ 2 * (c + 768) := by omega
      calc 2 ^ r * (c + (c + 768) / 4 + 768) ≤ 2 ^ r * (2 * (c + 768)) := Nat.mul_le_mul_left _ h1
        _ = 2 ^ (r + 1) * (c + 768) := by rw [Nat.pow_succ, Nat.mul_assoc]
theorem slicecap_le {n c : Nat} (h : c < n) : Builtin.nextslicecap n c ≤ 16 * (n + 768) := by
  unfold Builtin.nextslicecap
  by_cases h1 : n > 2 * c
  · rw [if_pos h1]; omega
  · rw [if_neg h1]
    by_cases h2 : c < 256
    · rw [if_pos h2]; omega
    · rw [if_neg h2]
      exact Nat.le_trans (growBy_le n 4 c) (Nat.mul_le_mul_left 16 (Nat.add_le_add_right (Nat.le_of_lt h) 768))
theorem notInt_inv {ts : Array TypeId} (h : notInt P ts = true) : ts[1]? = none ∨ ∃ xt d, ts[1]? = some xt ∧ P.underlying xt = some d ∧ ∀ k, d ≠ .int k := by
  unfold notInt at h
  cases ht : ts[1]? with
  | none => exact .inl rfl
  | some xt =>
    rw [ht] at h
    dsimp only at h
    cases hu : P.underlying xt with
    | none => rw [hu] at h; cases h
    | some d =>
      rw [hu] at h
      refine .inr ⟨xt, d, rfl, hu, ?_⟩
      rintro k rfl
      cases h
/-- The end of an append that stays in its row. -/
theorem append_in {ts : Array TypeId} {ty st e : TypeId} {i : TypeInfo} {s' x' : Value} {base : Option Addr} {n k m : Nat} {us : List Value} (hts : ts[0]? = some st) (hu : P.underlying st = some (.slice e)) (hi : P.info? e = some i)
    (hni : notInt P ts = true) (hs : s' = .slice base n k) (hlen : (Builtin.lenOf x').run P w = .ok m w) (hus : (Builtin.firstCells i.size m x').run P w = .ok us.toArray w) (hk : n + m ≤ k) {w' : World}
    (hst : (match base with | none => Result.ok () w | some a => (storeCells (a.add (n * i.size)) us).run P w) = .ok () w') :
    (Builtin.append_ ts ty #[s', x']).run P w = .ok (.slice base (n + m) k) w' := by
  subst hs
  have hsz : size? P e = some i.size := by unfold size?; rw [hi]; rfl
  unfold Builtin.append_
  simp only [hts, List.getElem?_toArray, List.getElem?_cons_zero, List.getElem?_cons_succ]
  rw [Sem.run_bind, run_und w hu, Result.andThen_ok]
  dsimp only
  rw [Sem.run_bind, run_size w hsz, Result.andThen_ok]
  rcases notInt_inv hni with h1 | ⟨xt, d, h1, h2, h3⟩
  · rw [h1]
    dsimp only
    rw [Sem.run_bind, Sem.run_pure, Result.andThen_ok]
    simp only [Bool.false_eq_true, if_false, Bool.not_false, if_true]
    rw [Sem.run_bind, hlen, Result.andThen_ok, if_pos hk]
    rw [Sem.run_bind, hus, Result.andThen_ok]
    cases base with
    | none => cases hst; rfl
    | some a =>
      dsimp only at hst ⊢
      rw [Sem.run_bind, hst]
      rfl
  · rw [h1]
    dsimp only
    rw [Sem.run_bind, run_und w h2, Result.andThen_ok]
    cases d <;> first | exact absurd rfl (h3 _) | skip
    all_goals
      rw [Sem.run_bind, Sem.run_pure, Result.andThen_ok]
      simp only [Bool.false_eq_true, if_false, Bool.not_false, if_true]
      rw [Sem.run_bind, hlen, Result.andThen_ok, if_pos hk]
      rw [Sem.run_bind, hus, Result.andThen_ok]
      cases base with
      | none => cases hst; rfl
      | some a =>
        dsimp only at hst ⊢
        rw [Sem.run_bind, hst]
        rfl
end ops
end Go.Ev



namespace Go.Ev
open Go Go.RowKit
section ops
variable {P : Program} {ω : Nat → Value} {B : Nat} {W0 : World} {μ : Mp} {w : World} {s s' : St} {call : FuncId → List Value → E Value} {ρ ρ' : Operand → Value}
/-- The end of an append that makes a new row. -/
theorem append_new {ts : Array TypeId} {ty st e : TypeId} {i : TypeInfo} {s' x' zv : Value} {base : Option Addr} {n k m : Nat} {us old : List Value} (hts : ts[0]? = some st) (hu : P.underlying st = some (.slice e)) (hi : P.info? e = some i) (hz : i.zero = some zv)
    (hni : notInt P ts = true) (hs : s' = .slice base n k) (hlen : (Builtin.lenOf x').run P w = .ok m w) (hus : ∀ d, (Builtin.firstCells i.size m x').run P { w with drawn := d } = .ok us.toArray { w with drawn := d })
    (hold : ∀ d, (Builtin.firstCells i.size n s').run P { w with drawn := d } = .ok old.toArray { w with drawn := d })
    (hk : k < n + m) (hg : n + m < 1000000) (hb0 : i.bytes ≠ 0) (hb1 : i.bytes ≤ 1000) :
    ∃ cap, n + m ≤ cap ∧ (Builtin.append_ ts ty #[s', x']).run P w = .ok (.slice (some ⟨w.heap.size, 0, none⟩) (n + m) cap)
      (World.alloc { w with drawn := w.drawn + 1 } (.cells (old.toArray ++ us.toArray ++ Builtin.zeroCells zv.cells (cap - (n + m))) e)) := by
  subst hs
  have hsz : size? P e = some i.size := by unfold size?; rw [hi]; rfl
  have hz0 : zero? P e = some zv := by unfold zero?; rw [hi]; exact hz
  have hc : ∀ w' : World, ∃ cap, n + m ≤ cap ∧ (choose (.appendCap (n + m) k e)).run P w' = .ok cap { w' with drawn := w'.drawn + 1 } := by
    intro w'
    refine ⟨_, ?_, by rw [run_choose, if_neg (by simp [Question.forced])]⟩
    simp [Question.cut]
  obtain ⟨cap, hcap, hch⟩ := hc w
  refine ⟨cap, hcap, ?_⟩
  have g1 : ¬ ((((n + m : Nat) : Int) > IntKind.i64.max) ∧ (false = true ∨ i.bytes = 0)) := by
    rintro ⟨_, h | h⟩
    · cases h
    · exact hb0 h
  have g2 : ¬ (Builtin.nextslicecap (n + m) k * i.bytes > 2 ^ 48) := by
    have h1 := slicecap_le hk
    have h2 : Builtin.nextslicecap (n + m) k * i.bytes ≤ (16 * (n + m + 768)) * 1000 := Nat.mul_le_mul h1 hb1
    have h3 : (16 * (n + m + 768)) * 1000 ≤ 2 ^ 48 := by omega
    omega
  unfold Builtin.append_
  simp only [hts, List.getElem?_toArray, List.getElem?_cons_zero, List.getElem?_cons_succ]
  rw [Sem.run_bind, run_und w hu, Result.andThen_ok]
  dsimp only
  rw [Sem.run_bind, run_size w hsz, Result.andThen_ok]
  rcases notInt_inv hni with h1 | ⟨xt, d, h1, h2, h3⟩
  · rw [h1]
    dsimp only
    rw [Sem.run_bind, Sem.run_pure, Result.andThen_ok]
    simp only [Bool.false_eq_true, if_false, Bool.not_false, if_true]
    rw [Sem.run_bind, hlen, Result.andThen_ok, if_neg (by omega)]
    rw [Sem.run_bind, run_info w hi, Result.andThen_ok]
    rw [if_neg (by simpa using g1)]
    rw [Sem.run_bind, run_info w hi, Result.andThen_ok]
    rw [if_neg g2]
    rw [Sem.run_bind, hch, Result.andThen_ok]
    rw [Sem.run_bind, run_info _ hi, Result.andThen_ok]
    rw [Sem.run_bind, run_askRoom, Result.andThen_ok]
    rw [Sem.run_bind, hold, Result.andThen_ok]
    rw [Sem.run_bind, hus, Result.andThen_ok]
    rw [Sem.run_bind, run_zero _ hz0, Result.andThen_ok]
    rfl
  · rw [h1]
    dsimp only
    rw [Sem.run_bind, run_und w h2, Result.andThen_ok]
    cases d <;> first | exact absurd rfl (h3 _) | skip
    all_goals
      rw [Sem.run_bind, Sem.run_pure, Result.andThen_ok]
      simp only [Bool.false_eq_true, if_false, Bool.not_false, if_true]
      rw [Sem.run_bind, hlen, Result.andThen_ok, if_neg (by omega)]
      rw [Sem.run_bind, run_info w hi, Result.andThen_ok]
      rw [if_neg (by simpa using g1)]
      rw [Sem.run_bind, run_info w hi, Result.andThen_ok]
      rw [if_neg g2]
      rw [Sem.run_bind, hch, Result.andThen_ok]
      rw [Sem.run_bind, run_info _ hi, Result.andThen_ok]
      rw [Sem.run_bind, run_askRoom, Result.andThen_ok]
      rw [Sem.run_bind, hold, Result.andThen_ok]
      rw [Sem.run_bind, hus, Result.andThen_ok]
      rw [Sem.run_bind, run_zero _ hz0, Result.andThen_ok]
      rfl
end ops
end Go.Ev



namespace Go.Ev
open Go Go.RowKit
section ops
variable {P : Program} {ω : Nat → Value} {B : Nat} {W0 : World} {μ : Mp} {w : World} {s s' : St} {call : FuncId → List Value → E Value} {ρ ρ' : Operand → Value}
theorem zeroCells_length (z : Array Value) (n : Nat) : (Builtin.zeroCells z n).toList.length = n * z.size := by
  simp [Builtin.zeroCells]
theorem doAppend_ok {ts : Array TypeId} {ty : TypeId} {a b a' b' v : Value} (hω : ∀ k, (ω k).oneCell' = true) (h : doAppend P ts a b s = some (v, s')) (ha : VR ω μ a a') (hb : VR ω μ b b') (hR : Rel ω B W0 μ s.heap w)
    (h4 : 4096 ≤ s.next) (hf : Fresh μ s.next s'.next) : Gives P (Builtin.append_ ts ty #[a', b']) w (Post ω B W0 μ s s' v) := by
  unfold doAppend at h
  obtain ⟨mm, hmm, hh⟩ := app h
  clear h
  split at hmm <;> subst hmm
  case h_2 => cases hh
  rename_i base n k
  obtain ⟨st, s1, h1, h2⟩ := bind_inv hh
  clear hh
  obtain ⟨hts, rfl⟩ := opt_inv h1
  obtain ⟨e, s2, h3, h5⟩ := bind_inv h2
  obtain ⟨he, rfl⟩ := opt_inv h3
  obtain ⟨i, s3, h6, h7⟩ := bind_inv h5
  obtain ⟨hi, rfl⟩ := opt_inv h6
  obtain ⟨zv, s4, h8, h9⟩ := bind_inv h7
  obtain ⟨hz, rfl⟩ := opt_inv h8
  obtain ⟨hg, h10⟩ := guard_inv h9
  simp only [Bool.or_eq_false_iff, Bool.not_eq_false'] at hg
  obtain ⟨⟨⟨⟨hg1, hg2⟩, hg3⟩, hg4⟩, hg5⟩ := hg
  have hg5 := Nat.eq_of_beq_eq_true hg5
  have hg3 : i.bytes ≠ 0 := by intro h; rw [h] at hg3; cases hg3
  have hg4 : i.bytes ≤ 1000 := by rw [ble_dec] at hg4; have := of_decide_eq_false hg4; omega
  obtain ⟨⟨m, new⟩, s5, h11, h12⟩ := bind_inv h10
  obtain ⟨rfl, hnl, hlen, us, hus, hfc⟩ := src_ok h11 hb hR
  have hu := sliceElem_inv he
  have hfw : (Builtin.firstCells i.size m b').run P w = .ok us.toArray w := by have := hfc w.drawn; exact this
  dsimp only at h12
  rcases cond_inv h12 with ⟨hm, h13⟩ | ⟨hm, h13⟩
  · -- nothing is appended
    have hm := Nat.eq_of_beq_eq_true hm
    subst hm
    obtain ⟨rfl, rfl⟩ := pure_inv h13
    have hnil : us = [] := by
      have h0 : us.length = 0 := by rw [← hus.1, hnl, Nat.zero_mul]
      exact List.length_eq_zero_iff.1 h0
    subst hnil
    have fin : ∀ (bs : Option Addr) (k' : Nat), a' = .slice bs n k' → n ≤ k' → Gives P (Builtin.append_ ts ty #[a', b']) w (Post ω B W0 μ s' s' (.slice base n k)) := by
      intro bs k' ea hk'
      refine Gives.of_run (append_in hts hu hi hg1 ea hlen hfw (by omega) (w' := w) ?_) ?_
      · cases bs <;> rfl
      · refine Post.same hR ?_
        rw [Nat.add_zero, ← ea]; exact ha
    cases ha with
    | sliceNil => exact fin none 0 rfl (Nat.le_refl _)
    | slice _ _ _ _ k' l hl hk hr => exact fin _ k' rfl hk
    | sliceEmpty => exact fin _ 0 rfl (Nat.le_refl _)
    | sliceZero => exact fin _ 0 rfl (Nat.le_refl _)
  · have hm0 : m ≠ 0 := by intro h; rw [h] at hm; cases hm
    obtain ⟨hg6, h14⟩ := guard_inv h13
    simp only [Bool.or_eq_false_iff, Bool.not_eq_false'] at hg6
    obtain ⟨hg6, hone⟩ := hg6
    have hnm : n + m < 1000000 := by rw [ble_dec] at hg6; have := of_decide_eq_false hg6; omega
    obtain ⟨old, s6, h15, h16⟩ := bind_inv h14
    obtain ⟨y, s7, h17, h18⟩ := bind_inv h16
    obtain ⟨rfl, rfl⟩ := nw_inv h17
    obtain ⟨rfl, rfl⟩ := pure_inv h18
    dsimp only at hf
    -- a new row
    have fresh : ∀ (s6 : St) (bs : Option Addr) (k' : Nat) (os : List Value), s6.next = s5.next → Rel ω B W0 μ s6.heap w → VRs ω μ old os → old.length = n * i.size → a' = .slice bs n k' → k' < n + m → μ s5.next = none →
        (∀ d, (Builtin.firstCells i.size n a').run P { w with drawn := d } = .ok os.toArray { w with drawn := d }) →
        Gives P (Builtin.append_ ts ty #[a', b']) w (Post ω B W0 μ s5 { heap := s6.heap.set s6.next (.cells (old ++ new) e), next := s6.next + 1, low := s6.low, mask := s6.mask } (.slice (some ⟨s6.next, 0, none⟩) (n + m) i.size)) := by
      intro s6 bs k' os hnx hR6 hos hol ea hk' hfr hfo
      obtain ⟨cap, hcap, hrun⟩ := append_new (ty := ty) (old := os) hts hu hi hz hg1 ea hlen hfc hfo hk' hnm hg3 hg4
      refine Gives.of_run hrun ?_
      have hp := newSlice_ok (s := s6) (w := { w with drawn := w.drawn + 1 }) (e := e) (e' := e) (c := old ++ new) (us := os ++ us) (rest := (Builtin.zeroCells zv.cells (cap - (n + m))).toList) (n := n + m) (k := cap) (z := i.size)
        (hR6.drawn _) (by rw [hnx]; exact h4) (by rw [hnx]; exact hfr) (hos.append hus) hcap (by
          rw [zeroCells_length, hg5, List.length_append, ← hos.1, ← hus.1, hol, hnl, ← Nat.add_mul, ← Nat.add_mul]
          exact Nat.mul_le_mul_right _ (by omega))
      have ea2 : (os ++ us ++ (Builtin.zeroCells zv.cells (cap - (n + m))).toList).toArray = os.toArray ++ us.toArray ++ Builtin.zeroCells zv.cells (cap - (n + m)) := by
        apply Array.toList_inj.1; simp
      rw [ea2] at hp
      obtain ⟨μ', q1, q2, q3⟩ := hp
      exact ⟨μ', by rw [hnx] at q1; rw [hnx]; exact q1, q2, q3⟩
    obtain ⟨mm, hmm, hh⟩ := app h15
    clear h15
    split at hmm <;> subst hmm
    · -- nil
      obtain ⟨hn0, h19⟩ := guard_inv' hh
      obtain ⟨rfl, rfl⟩ := pure_inv h19
      have hn0 := Nat.eq_of_beq_eq_true hn0
      subst hn0
      cases ha with
      | sliceNil => exact fresh s6 none 0 [] rfl hR VRs.nil (by simp) rfl (by omega) (hf _ (Nat.le_refl _) (by omega)) (fun d => rfl)
    · rename_i y off
      obtain ⟨⟨c, ce⟩, s8, h19, h20⟩ := bind_inv hh
      obtain ⟨rfl, hmk, hgy⟩ := rdCells_inv h19
      dsimp only at h20 hgy
      obtain ⟨hkz, h21⟩ := guard_inv' h20
      have hkz := Nat.eq_of_beq_eq_true hkz
      subst hkz
      obtain ⟨old', s9, h22, h23⟩ := bind_inv h21
      obtain ⟨htk, rfl⟩ := opt_inv h22
      obtain ⟨_, s10, h24, h25⟩ := bind_inv h23
      obtain ⟨rfl, hy4, _, _⟩ := wr_eq h24
      obtain ⟨rfl, rfl⟩ := pure_inv h25
      obtain ⟨htl, rfl⟩ := take_some htk
      obtain ⟨l0, hl0, ho⟩ := hR.cells hgy
      have hol : ((c.drop off).take (n * i.size)).length = n * i.size := by simp; omega
      cases ha with
      | sliceEmpty _ _ _ a0 =>
        refine fresh { heap := s9.heap.set y .dead, next := s9.next, low := _, mask := s9.mask } (some a0) 0 [] rfl (hR.kill y) ?_ hol rfl (by omega) (hf _ (Nat.le_refl _) (by dsimp only; omega)) (fun d => ?_)
        · simpa using VRs.nil
        · simp [Builtin.firstCells, loadCells_zero]
      | slice _ _ _ _ k' l hl hk hr =>
        have e0 : l0 = l := by rw [hl] at hl0; cases hl0; rfl
        subst e0
        obtain ⟨os, hos, hcell⟩ := ho.piece htl
        have hosl : os.length = n * i.size := by rw [← hos.1]; exact hol
        by_cases hfit : n + m ≤ k'
        · -- in place
          have hkz : n * i.size + m * i.size ≤ k' * i.size := by rw [← Nat.add_mul]; exact Nat.mul_le_mul_right _ hfit
          have husl : us.length = m * i.size := by rw [← hus.1]; exact hnl
          have hst := run_storeCells_cells (P := P) l0.blk (l0.off + off + n * i.size) us 0 w (fun j hj => ho.1.some (by omega)) (fun j hj => ho.1.free (by omega)) (ones hω hus hone)
          rw [Nat.add_zero] at hst
          refine Gives.of_run (append_in hts hu hi hg1 rfl hlen hfw hfit (w' := w.setCells l0.blk (l0.off + off + n * i.size) us) (by dsimp only; rw [addr_add]; exact hst)) ?_
          have hext : Ext μ (fun x => if x = s9.next then some ⟨l0.blk, l0.off + off, l0.room - off⟩ else μ x) s9.next (s9.next + 1) := Ext.one (hf _ (Nat.le_refl _) (by dsimp only; omega)) (Nat.le_refl _) (by omega)
          refine ⟨_, hext, ?_, ?_⟩
          · refine (hR.kill y).anew (l := ⟨l0.blk, l0.off + off, l0.room - off⟩) h4 (hf _ (Nat.le_refl _) (by dsimp only; omega)) (World.os_setCells _ _ _ _) (tape_setCells _ _ _ _) (World.output_setCells _ _ _ _) (by rw [size_setCells]; exact Nat.le_refl _)
              (show B ≤ l0.blk from hR.own y _ l0 hy4 hgy (by simp) hl) (fun b _ hb => heap_setCells _ _ _ _ _ hb) ?_ ?_
            · intro x p q hx hp hq hbl
              by_cases hxy : x = y
              · subst hxy; rw [T.get_set_self] at hx; cases hx; exact hp rfl
              · rw [T.get_set_ne _ _ hxy] at hx
                exact hxy (hR.inj x y p _ q l0 hx hp hgy (by simp) hq hl hbl)
            · have hrow := ho.1.setCells l0.blk us (l0.off + off + n * i.size)
              refine ⟨?_, ?_, ?_⟩
              · dsimp only
                rw [show l0.off + off + (l0.room - off) = l0.off + l0.room by omega]
                exact hrow
              · dsimp only; rw [List.length_append, hol, hnl]; omega
              · intro j v hv
                have hos' := hos.ext hext.1
                have hus' := hus.ext hext.1
                dsimp only
                rw [List.getElem?_append] at hv
                split at hv
                · rename_i hj
                  obtain ⟨u, hu1, hu2⟩ := hos'.get hv
                  refine ⟨u, ?_, hu2⟩
                  rw [World.cell?_setCells_out l0.blk us _ w ⟨l0.blk, l0.off + off + j, none⟩ (fun _ _ => by dsimp only; omega)]
                  exact hcell j u hu1
                · rename_i hj
                  obtain ⟨u, hu1, hu2⟩ := hus'.get hv
                  refine ⟨u, ?_, hu2⟩
                  have hjl : j - ((c.drop off).take (n * i.size)).length < us.length := (List.getElem?_eq_some_iff.1 hu1).1
                  have := World.cell?_setCells_in l0.blk us (l0.off + off + n * i.size) w (fun q hq => ho.1.some (by omega)) _ hjl
                  rw [show l0.off + off + n * i.size + (j - ((c.drop off).take (n * i.size)).length) = l0.off + off + j by omega] at this
                  rw [this, ← hu1, List.getElem?_eq_getElem hjl]
          · have := VR.slice (ω := ω) (μ := fun x => if x = s9.next then some ⟨l0.blk, l0.off + off, l0.room - off⟩ else μ x) s9.next 0 (n + m) i.size k' ⟨l0.blk, l0.off + off, l0.room - off⟩ (by simp) hfit (by dsimp only; omega)
            simpa using this
        · refine fresh { heap := s9.heap.set y .dead, next := s9.next, low := _, mask := s9.mask } _ k' os rfl (hR.kill y) hos hol rfl (by omega) (hf _ (Nat.le_refl _) (by dsimp only; omega)) (fun d => ?_)
          have hload := run_loadCells_list (P := P) { w with drawn := d } ⟨l0.blk, l0.off + off, none⟩ os (fun j v hv => by rw [Addr.add_mid]; exact hcell j v hv)
          rw [hosl] at hload
          exact hload
    · rename_i hno
      obtain ⟨hn0, h19⟩ := guard_inv' hh
      obtain ⟨rfl, rfl⟩ := pure_inv h19
      have hn0 := Nat.eq_of_beq_eq_true hn0
      subst hn0
      cases ha with
      | slice _ _ _ _ k' l hl hk hr => exact absurd rfl (hno _ _)
      | sliceEmpty _ _ _ a0 => exact absurd rfl (hno _ _)
      | sliceZero _ _ _ _ a0 => exact fresh s6 (some a0) 0 [] rfl hR VRs.nil (by simp) rfl (by omega) (hf _ (Nat.le_refl _) (by omega)) (fun d => by simp [Builtin.firstCells, loadCells_zero])
end ops
end Go.Ev



namespace Go.Ev
open Go Go.RowKit
/-- A call of the model's ends well. -/
def CallR (P : Program) (f : FuncId) (args : Array Value) (w : World) (R : Value → World → Prop) : Prop :=
  match (callFunc f args).run P w with
  | .ok (.value u) w' => R u w'
  | .ok (.enter g as) w' => Calls P g as w' fun e w'' => match e with
    | .returned u => R u w''
    | _ => False
  | _ => False
/-- No object that may be looked at lies behind the next number. -/
def Bd (s : St) : Prop := ∀ x o, s.next ≤ x → s.heap.get x = some o → masked s.mask x = true
theorem Bd.after {α : Type} {m : E α} {s s' : St} {a : α} (h : Bd s) (st : Step m s a s') : Bd s' := by
  intro x o hx ho
  rw [st.mask]
  by_cases hs : s.heap.get x = none
  · rw [st.keeps x (by have := st.next; omega) (.inr (.inl hs))] at ho
    rw [hs] at ho; cases ho
  · obtain ⟨o', ho'⟩ := Option.ne_none_iff_exists'.1 hs
    exact h x o' (Nat.le_trans st.next hx) ho'
/-- The evaluator's calls stand for the model's. -/
def CallsOk (P : Program) (ω : Nat → Value) (B : Nat) (W0 : World) (call : FuncId → List Value → E Value) : Prop :=
  ∀ f as s v s', call f as s = some (v, s') → ∀ (μ : Mp) (w : World) (ras : List Value), Rel ω B W0 μ s.heap w → Bd s → 4096 ≤ s.next → Fresh μ s.next s'.next → VRs ω μ as ras → CallR P f ras.toArray w (Post ω B W0 μ s s' v)
section ops
variable {P : Program} {ω : Nat → Value} {B : Nat} {W0 : World} {μ : Mp} {w : World} {s s' : St} {call : FuncId → List Value → E Value} {ρ ρ' : Operand → Value}
theorem armCallV_ok {f : Operand} {as : Array Operand} {ts : Array TypeId} {v : Value} (hc : CallsOk P ω B W0 call) (hbd : Bd s) (h : armCallV f as P call ρ s = some (v, s')) (hρ : ∀ x, VR ω μ (ρ x) (ρ' x)) (hR : Rel ω B W0 μ s.heap w) (h4 : 4096 ≤ s.next) (hf : Fresh μ s.next s'.next)
    {o : Oper} (ho : o.op = .call { callee := .value f, args := as, argTypes := ts }) : Does P o ρ' w (Post ω B W0 μ s s' v) := by
  unfold armCallV at h
  have hx := hρ f
  obtain ⟨mm, hmm, hh⟩ := app h
  clear h
  split at hmm <;> subst hmm
  case h_2 => cases hh
  rename_i g first captured hrf
  rw [hrf] at hx
  generalize hu : ρ' f = u at hx
  cases hx with
  | func _ _ _ a' b' ha hb hav hbv =>
    have hvs := ((VRs.of_arrays ha hav).append (map_VRs hρ as.toList)).append (VRs.of_arrays hb hbv)
    have hcall := hc g _ s v s' hh μ w _ hR hbd h4 hf hvs
    unfold CallR at hcall
    have earr : (a'.toList ++ as.toList.map ρ' ++ b'.toList).toArray = a' ++ as.map ρ' ++ b' := by
      apply Array.toList_inj.1; simp
    rw [earr] at hcall
    unfold Does
    have hex : execOp ρ' o = callFunc g (a' ++ as.map ρ' ++ b') := by
      simp only [execOp, ho, resolve, hu, Deferred.ofValue]
      rfl
    rw [hex]
    revert hcall
    generalize (callFunc g (a' ++ as.map ρ' ++ b')).run P w = r
    intro hcall
    cases r with
    | halt _ _ => exact hcall.elim
    | ok n w' => cases n <;> first | exact hcall | exact hcall.elim
theorem method_gives {t : TypeId} {v u : Value} {name : String} {f : FuncId} {e : Option TypeId} {R : FuncId × Value → World → Prop} (hi : invoked? P t name = some (f, e)) (h0 : e = none → R (f, v) w)
    (h1 : ∀ t', e = some t' → Gives P (Instr.loadAt t' v) w fun u w' => R (f, u) w') (n : Nat) : Gives P (Go.method (n + 1) t v name) w R := by
  unfold invoked? at hi
  cases hin : P.info? t with
  | none => rw [hin] at hi; cases hi
  | some i =>
    rw [hin] at hi
    dsimp only at hi
    cases hm : i.methods.toList.find? (·.name == name) with
    | none => rw [hm] at hi; cases hi
    | some m =>
      rw [hm] at hi
      dsimp only at hi
      cases hp : m.path.toList with
      | cons a l => rw [hp] at hi; cases hi
      | nil =>
        rw [hp] at hi
        dsimp only at hi
        cases hf : m.func with
        | none => rw [hf] at hi; cases hi
        | some q =>
          obtain ⟨g, p⟩ := q
          rw [hf] at hi
          dsimp only at hi
          cases hu : P.underlying t with
          | none => rw [hu] at hi; cases hi
          | some d =>
            rw [hu] at hi
            dsimp only at hi
            have hm' : i.methods.find? (·.name == name) = some m := by rw [← Array.find?_toList]; exact hm
            have hpe : m.path.isEmpty = true := by
              have : m.path = #[] := by apply Array.toList_inj.1; exact hp
              rw [this]; rfl
            unfold Go.method
            refine Gives.bind (Gives.of_run (run_info w hin) ?_)
            rw [hm']
            dsimp only
            rw [hp]
            refine Gives.bind (Gives.pure ?_)
            dsimp only
            rw [hf]
            dsimp only
            have plain : (some (g, none) = some (f, e)) → R (g, v) w := by
              intro h
              have h := Option.some.inj h
              have e1 : g = f := congrArg Prod.fst h
              have e2 : (none : Option TypeId) = e := congrArg Prod.snd h
              subst e1
              exact h0 e2.symm
            have byptr : ∀ elem, d = .pointer elem → p = false → Gives P (Go.receiverAt t (.val v) p (if m.path.isEmpty then some ((name.splitOn ".").getLastD name) else none)) w fun u w' => Gives P (pure (g, u) : Sem (FuncId × Value)) w' R := by
              intro elem hd hp
              subst hd hp
              dsimp only at hi
              have h := Option.some.inj hi
              have e1 : g = f := congrArg Prod.fst h
              have e2 : some elem = e := congrArg Prod.snd h
              subst e1
              obtain ⟨u', w', hr, hR⟩ := h1 elem e2.symm
              unfold Instr.loadAt at hr
              rw [Sem.run_bind] at hr
              cases v with
              | pointer a =>
                cases a with
                | none => cases hr
                | some a =>
                  unfold Go.receiverAt
                  refine Gives.bind (Gives.of_run (run_und w hu) ?_)
                  dsimp only
                  refine Gives.bind (Gives.pure ?_)
                  rw [if_pos hpe]
                  refine Gives.bind (Gives.pure ?_)
                  refine Gives.bind (Gives.pure ?_)
                  exact ⟨u', w', hr, Gives.pure hR⟩
              | _ => cases hr
            have direct : (some (g, none) = some (f, e)) → (Go.receiverAt t (.val v) p (if m.path.isEmpty then some ((name.splitOn ".").getLastD name) else none)).run P w = .ok v w → Gives P (Go.receiverAt t (.val v) p (if m.path.isEmpty then some ((name.splitOn ".").getLastD name) else none)) w fun u w' => Gives P (pure (g, u) : Sem (FuncId × Value)) w' R :=
              fun h hr => ⟨v, w, hr, Gives.pure (plain h)⟩
            refine Gives.bind ?_
            cases p with
            | false =>
              cases d
              case pointer elem => exact byptr elem rfl rfl
              all_goals exact direct hi (by unfold Go.receiverAt; rw [Sem.run_bind, run_und w hu]; rfl)
            | true =>
              cases d
              case pointer elem => exact direct hi (by unfold Go.receiverAt; rw [Sem.run_bind, run_und w hu]; rfl)
              all_goals cases hi
theorem armInvoke_ok {x : Operand} {name : String} {as : Array Operand} {ts : Array TypeId} {v : Value} (hc : CallsOk P ω B W0 call) (hbd : Bd s) (h : armInvoke x name as P call ρ s = some (v, s')) (hρ : ∀ x, VR ω μ (ρ x) (ρ' x)) (hR : Rel ω B W0 μ s.heap w) (h4 : 4096 ≤ s.next) (hf : Fresh μ s.next s'.next)
    {o : Oper} (ho : o.op = .call { callee := .invoke x name, args := as, argTypes := ts }) : Does P o ρ' w (Post ω B W0 μ s s' v) := by
  unfold armInvoke at h
  have hx := hρ x
  obtain ⟨mm, hmm, hh⟩ := app h
  clear h
  split at hmm <;> subst hmm
  case h_2 => cases hh
  rename_i t u hrx
  rw [hrx] at hx
  generalize hu : ρ' x = u' at hx
  cases hx with
  | iface _ _ u2 hv =>
    obtain ⟨⟨f, e⟩, s1, g1, g2⟩ := bind_inv hh
    obtain ⟨hi, rfl⟩ := opt_inv g1
    have hex : execOp ρ' o = callMethod (.iface t u2) name (as.map ρ') := by
      simp only [execOp, ho, resolve, hu, invoke]
      have e0 : ((#[Value.iface t u2] ++ as.map ρ')[0]? : Option Value) = some (Value.iface t u2) := by
        rw [Array.getElem?_append_left (by simp)]
        rfl
      simp
      rw [e0]
      dsimp only
      have e2 : (Array.map ρ' as).extract 0 as.size = Array.map ρ' as := by
        have := Array.extract_size (xs := Array.map ρ' as)
        rwa [Array.size_map] at this
      rw [e2]
    have fin : ∀ (r r' : Value), VR ω μ r r' → call f (r :: as.toList.map ρ) s1 = some (v, s') → (Go.method (P.types.size + Made.depth) t u2 name).run P w = .ok (f, r') w → Does P o ρ' w (Post ω B W0 μ s1 s' v) := by
      intro r r' hr hcl hm
      have hvs := VRs.cons hr (map_VRs hρ as.toList)
      have hcall := hc f _ s1 v s' hcl μ w _ hR hbd h4 hf hvs
      unfold CallR at hcall
      have earr : (r' :: as.toList.map ρ').toArray = #[r'] ++ as.map ρ' := by
        apply Array.toList_inj.1; simp
      rw [earr] at hcall
      unfold Does
      have hrun : (execOp ρ' o).run P w = (callFunc f (#[r'] ++ as.map ρ')).run P w := by
        rw [hex]
        unfold callMethod
        dsimp only
        rw [Sem.run_bind]
        show (Result.andThen (.ok P w) _) = _
        rw [Result.andThen_ok, Sem.run_bind, hm, Result.andThen_ok]
      rw [hrun]
      revert hcall
      generalize (callFunc f (#[r'] ++ as.map ρ')).run P w = rr
      intro hcall
      cases rr with
      | halt _ _ => exact hcall.elim
      | ok n w' => cases n <;> first | exact hcall | exact hcall.elim
    have hdep : 0 < Made.depth := by decide
    obtain ⟨k, hk⟩ : ∃ k, P.types.size + Made.depth = k + 1 := ⟨P.types.size + Made.depth - 1, by omega⟩
    dsimp only at g2
    cases e with
    | none =>
      refine fin u u2 hv g2 ?_
      obtain ⟨q, w', h1, rfl, rfl⟩ := method_gives (w := w) (v := u2) (R := fun q w' => q = (f, u2) ∧ w' = w) (u := u2) hi (fun _ => ⟨rfl, rfl⟩) (fun t' h => by cases h) k
      rw [hk]; exact h1
    | some e =>
      obtain ⟨r, s2, g3, g4⟩ := bind_inv g2
      obtain ⟨rfl, hl⟩ := doLoad_ok g3 hv hR
      obtain ⟨r', w', h1, rfl, h3⟩ := hl
      refine fin r r' h3 g4 ?_
      obtain ⟨q, w'', h4', rfl, rfl⟩ := method_gives (w := w') (v := u2) (R := fun q w2 => q = (f, r') ∧ w2 = w') (u := u2) hi (fun h => by cases h) (fun t' h => by cases h; exact ⟨r', w', h1, rfl, rfl⟩) k
      rw [hk]; exact h4'
theorem flat_arr {l : List Value} (h : l.all flat = true) {as : Array Operand} (e : as.toList.map ρ = l) (hρ : ∀ x, VR ω μ (ρ x) (ρ' x)) : as.map ρ' = l.toArray := by
  have := VRs.flat h (e ▸ map_VRs hρ as.toList)
  apply Array.toList_inj.1
  simpa using this
theorem armBuiltin_ok {b : Builtin} {as : Array Operand} {ts : Array TypeId} {v : Value} (hω : ∀ k, (ω k).oneCell' = true) (h : armBuiltin b as ts P call ρ s = some (v, s')) (hρ : ∀ x, VR ω μ (ρ x) (ρ' x)) (hR : Rel ω B W0 μ s.heap w) (h4 : 4096 ≤ s.next) (hf : Fresh μ s.next s'.next)
    {o : Oper} (ho : o.op = .call { callee := .builtin b, args := as, argTypes := ts }) : Does P o ρ' w (Post ω B W0 μ s s' v) := by
  unfold armBuiltin at h
  have hvs := map_VRs hρ as.toList
  obtain ⟨mm, hmm, hh⟩ := app h
  clear h
  split at hmm <;> subst hmm
  · rename_i a c e
    rw [e] at hvs
    obtain ⟨a', c', e', q1, q2⟩ : ∃ a' c', as.toList.map ρ' = [a', c'] ∧ VR ω μ a a' ∧ VR ω μ c c' := by
      match hl : as.toList.map ρ', hvs with
      | [a', c'], hvs => exact ⟨a', c', rfl, hvs.2 0 a a' rfl rfl, hvs.2 1 c c' rfl rfl⟩
      | [], hvs => have := hvs.1; simp at this
      | [_], hvs => have := hvs.1; simp at this
      | _ :: _ :: _ :: _, hvs => have := hvs.1; simp at this
    have ea : as.map ρ' = #[a', c'] := by apply Array.toList_inj.1; simpa using e'
    refine Does.value (m := Builtin.append_ ts o.type #[a', c']) ?_ (doAppend_ok hω hh q1 q2 hR h4 hf)
    simp only [execOp, ho, resolve, ea]; rfl
  · rename_i a c e
    rw [e] at hvs
    obtain ⟨a', c', e', q1, q2⟩ : ∃ a' c', as.toList.map ρ' = [a', c'] ∧ VR ω μ a a' ∧ VR ω μ c c' := by
      match hl : as.toList.map ρ', hvs with
      | [a', c'], hvs => exact ⟨a', c', rfl, hvs.2 0 a a' rfl rfl, hvs.2 1 c c' rfl rfl⟩
      | [], hvs => have := hvs.1; simp at this
      | [_], hvs => have := hvs.1; simp at this
      | _ :: _ :: _ :: _, hvs => have := hvs.1; simp at this
    have ea : as.map ρ' = #[a', c'] := by apply Array.toList_inj.1; simpa using e'
    obtain ⟨d1, d2, d3⟩ := doDelete_ok (ty := o.type) hh q1 q2 hR
    refine Does.value (m := Builtin.delete_ ts o.type #[a', c']) ?_ (d3.mono fun u w' ⟨hu, hr⟩ => ?_)
    · simp only [execOp, ho, resolve, ea]; rfl
    · subst hu; subst d2
      exact ⟨μ, by rw [d1]; exact Ext.refl _ _ _, hr, VR.tuple_of VRs.nil⟩
  · rename_i a e
    rw [e] at hvs
    obtain ⟨a', e', q1⟩ : ∃ a', as.toList.map ρ' = [a'] ∧ VR ω μ a a' := by
      match hl : as.toList.map ρ', hvs with
      | [a'], hvs => exact ⟨a', rfl, hvs.2 0 a a' rfl rfl⟩
      | [], hvs => have := hvs.1; simp at this
      | _ :: _ :: _, hvs => have := hvs.1; simp at this
    have ea : as.map ρ' = #[a'] := by apply Array.toList_inj.1; simpa using e'
    refine Does.value (m := Builtin.len_ ts o.type #[a']) ?_ (doLen_ok hh q1 hR)
    simp only [execOp, ho, resolve, ea]; rfl
  · rename_i l hl
    obtain ⟨hfl, h1⟩ := guard_inv' hh
    obtain ⟨g1, g2, rfl⟩ := pureVal_inv h1
    have ea := flat_arr hfl rfl hρ
    refine Does.value (m := Builtin.max_ #[] 0 (as.toList.map ρ).toArray) ?_ (pure_post hR (evalPure_run g1 w) g2)
    simp only [execOp, ho, resolve, ea]; rfl
  · rename_i l hl
    obtain ⟨hfl, h1⟩ := guard_inv' hh
    obtain ⟨g1, g2, rfl⟩ := pureVal_inv h1
    have ea := flat_arr hfl rfl hρ
    refine Does.value (m := Builtin.min_ #[] 0 (as.toList.map ρ).toArray) ?_ (pure_post hR (evalPure_run g1 w) g2)
    simp only [execOp, ho, resolve, ea]; rfl
  · cases hh
/-- EVERY OPERATION. -/
theorem armOf_ok {o : Oper} {v : Value} (hω : ∀ k, (ω k).oneCell' = true) (hc : CallsOk P ω B W0 call) (hbd : Bd s) (h : armOf o.op P call ρ s = some (v, s')) (hρ : ∀ x, VR ω μ (ρ x) (ρ' x)) (hR : Rel ω B W0 μ s.heap w) (h4 : 4096 ≤ s.next) (hf : Fresh μ s.next s'.next) :
    Does P o ρ' w (Post ω B W0 μ s s' v) := by
  have skipped : ∀ {m : Sem Unit}, execOp ρ' o = (do m; pure .skip) → (s'.next = s.next ∧ v = undef ∧ Gives P m w fun _ w' => Rel ω B W0 μ s'.heap w') → Does P o ρ' w (Post ω B W0 μ s s' v) := by
    intro m he ⟨e1, e2, e3⟩
    refine Does.skip he (e3.mono fun _ w' hr => ?_)
    subst e2
    exact ⟨μ, by rw [e1]; exact Ext.refl _ _ _, hr, VR.undef⟩
  cases ho : o.op with
  | move x =>
    rw [ho] at h
    exact Does.next (n := ρ' x) (by simp only [execOp, ho]; rfl) (armMove_ok (call := call) (P := P) h hρ hR)
  | assign x =>
    rw [ho] at h
    exact Does.next (n := ρ' x) (by simp only [execOp, ho]; rfl) (armMove_ok (call := call) (P := P) h hρ hR)
  | pick c a b =>
    rw [ho] at h
    obtain ⟨t, h1, h2⟩ := armPick_ok (call := call) (P := P) h hρ hR
    refine Does.next (n := if t then ρ' a else ρ' b) (w' := w) ?_ h2
    simp only [execOp, ho, h1]
    cases t <;> rfl
  | alloc e => rw [ho] at h; exact Does.value (by simp only [execOp, ho]) (armAlloc_ok (call := call) (ρ := ρ) h hR h4 hf)
  | box e x => rw [ho] at h; exact Does.value (by simp only [execOp, ho]) (armBox_ok (call := call) hω h hρ hR h4 hf)
  | build t ps => rw [ho] at h; exact Does.value (by simp only [execOp, ho]) (armBuild_ok (call := call) hω h hρ hR)
  | buildSlice t n ps => rw [ho] at h; exact Does.value (by simp only [execOp, ho]) (armBuildSlice_ok (call := call) hω h hρ hR h4 hf)
  | insert t m k x => rw [ho] at h; exact skipped (by simp only [execOp, ho]) (armMapUpdate_ok (call := call) h hρ hR)
  | load t a =>
    rw [ho] at h
    obtain ⟨rfl, h2⟩ := doLoad_ok h (hρ a) hR
    exact Does.value (by simp only [execOp, ho]) (h2.mono fun u w' ⟨e, hv⟩ => by subst e; exact Post.same hR hv)
  | store t a x => rw [ho] at h; exact skipped (by simp only [execOp, ho]) (doStore_ok hω h (hρ a) (hρ x) hR)
  | ready g => rw [ho] at h; cases h
  | waits g => rw [ho] at h; cases h
  | nilCheck x => rw [ho] at h; exact armNilCheck_ok (call := call) h hρ hR ho
  | binOp op t x y u => rw [ho] at h; exact Does.value (by simp only [execOp, ho]) (armBin_ok (call := call) h hρ hR)
  | unOp op t x => rw [ho] at h; exact Does.value (by simp only [execOp, ho]) (armUn_ok (call := call) h hρ hR)
  | convert a d x => rw [ho] at h; exact Does.value (by simp only [execOp, ho]) (armConvert_ok (call := call) h hρ hR h4 hf)
  | sliceToArrayPointer a x => rw [ho] at h; cases h
  | makeInterface t x => rw [ho] at h; exact Does.value (by simp only [execOp, ho]) (armMakeInterface_ok (call := call) h hρ hR)
  | makeFunc fn a b => rw [ho] at h; exact Does.value (by simp only [execOp, ho]) (armMakeFunc_ok (call := call) h hρ hR)
  | makeMap t r => rw [ho] at h; exact Does.value (by simp only [execOp, ho]) (armMakeMap_ok (call := call) h hρ hR h4 hf)
  | makeChan t n => rw [ho] at h; cases h
  | makeSlice t n k => rw [ho] at h; exact Does.value (by simp only [execOp, ho]) (armMakeSlice_ok (call := call) h hρ hR h4 hf)
  | slice t x lo hi mx => rw [ho] at h; exact Does.value (by simp only [execOp, ho]) (armSlice_ok (call := call) h hρ hR)
  | fieldAddr t x f => rw [ho] at h; exact Does.value (by simp only [execOp, ho]) (armFieldAddr_ok (call := call) h hρ hR)
  | field t x f => rw [ho] at h; exact Does.value (by simp only [execOp, ho]) (armField_ok (call := call) h hρ hR)
  | indexAddr t x i => rw [ho] at h; exact Does.value (by simp only [execOp, ho]) (armIndexAddr_ok (call := call) h hρ hR)
  | index t x i => rw [ho] at h; exact Does.value (by simp only [execOp, ho]) (armIndex_ok (call := call) h hρ hR)
  | lookup t m k ok => rw [ho] at h; exact Does.value (by simp only [execOp, ho]) (armLookup_ok (call := call) h hρ hR)
  | mapUpdate t m k x => rw [ho] at h; exact skipped (by simp only [execOp, ho]) (armMapUpdate_ok (call := call) h hρ hR)
  | mapEntry t m k => rw [ho] at h; cases h
  | entryStore t m k x => rw [ho] at h; cases h
  | range t x => rw [ho] at h; exact Does.value (by simp only [execOp, ho]) (armRange_ok (call := call) h hρ hR h4 hf)
  | next it b => rw [ho] at h; exact Does.value (by simp only [execOp, ho]) (armNext_ok (call := call) (ty := o.type) h hρ hR)
  | entry it => rw [ho] at h; exact Does.value (by simp only [execOp, ho]) (armEntry_ok (call := call) h hρ hR)
  | typeAssert x t a ok => rw [ho] at h; exact Does.value (by simp only [execOp, ho]) (armTypeAssert_ok (call := call) (t := t) h hρ hR)
  | extract t i => rw [ho] at h; exact Does.value (by simp only [execOp, ho]) (armExtract_ok (call := call) h hρ hR)
  | call c =>
    rw [ho] at h
    obtain ⟨callee, args, ts⟩ := c
    cases callee with
    | value f => exact armCallV_ok hc hbd h hρ hR h4 hf ho
    | invoke r m => exact armInvoke_ok hc hbd h hρ hR h4 hf ho
    | builtin b => exact armBuiltin_ok (call := call) hω h hρ hR h4 hf ho
  | go c => rw [ho] at h; cases h
  | defer c => rw [ho] at h; cases h
  | panic x => rw [ho] at h; cases h
  | send c x => rw [ho] at h; cases h
  | recv t c ok => rw [ho] at h; cases h
  | select cs b => rw [ho] at h; cases h
end ops
end Go.Ev
