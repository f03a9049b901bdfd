/- PART EvS of a proof by an evaluator of the model that is proved sound. -/
import Derived.Test.YtkaeneplpelgeaaGreatDoorEvQA
set_option linter.unusedVariables false
set_option linter.unusedSimpArgs false
namespace Go.Ev
open Go Go.RowKit
section ops
variable {P : Program} {ω : Nat → Value} {B : Nat} {W0 : World} {μ : Mp} {w : World} {s s' : St} {call : FuncId → List Value → E Value} {ρ ρ' : Operand → Value}
theorem loadCells_zero (a : Addr) : (loadCells a 0).run P w = .ok #[] w := rfl
/-- What is copied or appended. -/
theorem src_ok {z : Nat} {x x' : Value} {m : Nat} {new : List Value} (h : srcCells z x s = some ((m, new), s')) (hx : VR ω μ x x') (hR : Rel ω B W0 μ s.heap w) :
    s' = s ∧ new.length = m * z ∧ (Builtin.lenOf x').run P w = .ok m w ∧ ∃ us, VRs ω μ new us ∧ ∀ d, (Builtin.firstCells z m x').run P { w with drawn := d } = .ok us.toArray { w with drawn := d } := by
  unfold srcCells at h
  obtain ⟨mm, hmm, hh⟩ := app h
  clear h
  split at hmm <;> subst hmm
  · rename_i a n k
    rcases cond_inv hh with ⟨hn, h1⟩ | ⟨hn, h1⟩
    · have hn := Nat.eq_of_beq_eq_true hn
      subst hn
      obtain ⟨e, rfl⟩ := pure_inv h1
      cases e
      refine ⟨rfl, by simp, ?_, [], VRs.nil, fun d => ?_⟩
      · cases hx <;> rfl
      · cases hx <;> simp [Builtin.firstCells, loadCells_zero]
    · cases a with
      | none => cases h1
      | some ad =>
        obtain ⟨y, off, sp⟩ := ad
        cases sp with
        | some q => cases h1
        | none =>
          dsimp only at h1
          obtain ⟨⟨c, ce⟩, s1, h2, h3⟩ := bind_inv h1
          obtain ⟨rfl, hmk, hg⟩ := rdCells_inv h2
          dsimp only at h3 hg
          obtain ⟨cs, s2, h4, h5⟩ := bind_inv h3
          obtain ⟨htk, rfl⟩ := opt_inv h4
          obtain ⟨e, rfl⟩ := pure_inv h5
          cases e
          obtain ⟨htl, rfl⟩ := take_some htk
          obtain ⟨l0, hl0, ho⟩ := hR.cells hg
          cases hx with
          | slice _ _ _ _ k' l hl hk hr =>
            have e0 : l0 = l := by rw [hl] at hl0; cases hl0; rfl
            subst e0
            obtain ⟨us, hv, hcell⟩ := ho.piece htl
            have hlen : us.length = m * z := by rw [← hv.1]; simp; omega
            refine ⟨rfl, by rw [hv.1]; exact hlen, rfl, us, hv, fun d => ?_⟩
            have hload := run_loadCells_list (P := P) { w with drawn := d } ⟨l0.blk, l0.off + off, none⟩ us (fun j v hv => by rw [Addr.add_mid]; exact hcell j v hv)
            rw [hlen] at hload
            exact hload
          | sliceEmpty => simp at hn
  · rename_i b
    obtain ⟨hz, h1⟩ := guard_inv' hh
    have hz := Nat.eq_of_beq_eq_true hz
    subst hz
    obtain ⟨e, rfl⟩ := pure_inv h1
    cases e
    cases hx
    have hfl : (b.data.toList.map fun (b : UInt8) => Value.int .u8 b.toNat).all flat = true := by
      rw [List.all_eq_true]; intro v hv
      obtain ⟨x, _, rfl⟩ := List.mem_map.1 hv
      rfl
    refine ⟨rfl, by rw [List.length_map, Array.length_toList, Nat.mul_one]; rfl, rfl, _, VRs.refl_flat hfl, fun d => ?_⟩
    have : b.extract 0 b.size = b := by
      apply ByteArray.ext; simp
    simp only [Builtin.firstCells, this]
    show Result.ok _ _ = _
    congr 1
    apply Array.toList_inj.1
    simp
  · cases hh
theorem growBy_le (n : Nat) : ∀ r c, Builtin.growBy n r c ≤ 2 ^ r * (c + 768)
  | 0, c => by simp [Builtin.growBy]
  | r + 1, c => by
    unfold Builtin.growBy
    split
    · have : 1 ≤ 2 ^ (r + 1) := Nat.one_le_two_pow
      calc c ≤ 1 * (c + 768) := by omega
        _ ≤ 2 ^ (r + 1) * (c + 768) := Nat.mul_le_mul_right _ this
    · refine Nat.le_trans (growBy_le n r _) ?_
      have h1 : c + (c + 768) / 4 + 768 ≤ 2 * (c + 768) := by omega
      calc 2 ^ r * (c + (c + 768) / 4 + 768) ≤ 2 ^ r * (2 * (c + 768)) := Nat.mul_le_mul_left _ h1
        _ = 2 ^ (r + 1) * (c + 768) := by rw [Nat.pow_succ, Nat.mul_assoc]
theorem slicecap_le {n c : Nat} (h : c < n) : Builtin.nextslicecap n c ≤ 16 * (n + 768) := by
  unfold Builtin.nextslicecap
  by_cases h1 : n > 2 * c
  · rw [if_pos h1]; omega
  · rw [if_neg h1]
    by_cases h2 : c < 256
    · rw [if_pos h2]; omega
    · rw [if_neg h2]
      exact Nat.le_trans (growBy_le n 4 c) (Nat.mul_le_mul_left 16 (Nat.add_le_add_right (Nat.le_of_lt h) 768))
theorem notInt_inv {ts : Array TypeId} (h : notInt P ts = true) : ts[1]? = none ∨ ∃ xt d, ts[1]? = some xt ∧ P.underlying xt = some d ∧ ∀ k, d ≠ .int k := by
  unfold notInt at h
  cases ht : ts[1]? with
  | none => exact .inl rfl
  | some xt =>
    rw [ht] at h
    dsimp only at h
    cases hu : P.underlying xt with
    | none => rw [hu] at h; cases h
    | some d =>
      rw [hu] at h
      refine .inr ⟨xt, d, rfl, hu, ?_⟩
      rintro k rfl
      cases h
/-- The end of an append that stays in its row. -/
theorem append_in {ts : Array TypeId} {ty st e : TypeId} {i : TypeInfo} {s' x' : Value} {base : Option Addr} {n k m : Nat} {us : List Value} (hts : ts[0]? = some st) (hu : P.underlying st = some (.slice e)) (hi : P.info? e = some i)
    (hni : notInt P ts = true) (hs : s' = .slice base n k) (hlen : (Builtin.lenOf x').run P w = .ok m w) (hus : (Builtin.firstCells i.size m x').run P w = .ok us.toArray w) (hk : n + m ≤ k) {w' : World}
    (hst : (match base with | none => Result.ok () w | some a => (storeCells (a.add (n * i.size)) us).run P w) = .ok () w') :
    (Builtin.append_ ts ty #[s', x']).run P w = .ok (.slice base (n + m) k) w' := by
  subst hs
  have hsz : size? P e = some i.size := by unfold size?; rw [hi]; rfl
  unfold Builtin.append_
  simp only [hts, List.getElem?_toArray, List.getElem?_cons_zero, List.getElem?_cons_succ]
  rw [Sem.run_bind, run_und w hu, Result.andThen_ok]
  dsimp only
  rw [Sem.run_bind, run_size w hsz, Result.andThen_ok]
  rcases notInt_inv hni with h1 | ⟨xt, d, h1, h2, h3⟩
  · rw [h1]
    dsimp only
    rw [Sem.run_bind, Sem.run_pure, Result.andThen_ok]
    simp only [Bool.false_eq_true, if_false, Bool.not_false, if_true]
    rw [Sem.run_bind, hlen, Result.andThen_ok, if_pos hk]
    rw [Sem.run_bind, hus, Result.andThen_ok]
    cases base with
    | none => cases hst; rfl
    | some a =>
      dsimp only at hst ⊢
      rw [Sem.run_bind, hst]
      rfl
  · rw [h1]
    dsimp only
    rw [Sem.run_bind, run_und w h2, Result.andThen_ok]
    cases d <;> first | exact absurd rfl (h3 _) | skip
    all_goals
      rw [Sem.run_bind, Sem.run_pure, Result.andThen_ok]
      simp only [Bool.false_eq_true, if_false, Bool.not_false, if_true]
      rw [Sem.run_bind, hlen, Result.andThen_ok, if_pos hk]
      rw [Sem.run_bind, hus, Result.andThen_ok]
      cases base with
      | none => cases hst; rfl
      | some a =>
        dsimp only at hst ⊢
        rw [Sem.run_bind, hst]
        rfl
end ops
end Go.Ev
