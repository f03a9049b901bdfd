/- PART EvH of a proof by an evaluator of the model that is proved sound. -/
import Derived.Test.YtfcjpkigaagnaaaGreatDoorEvG
set_option linter.unusedVariables false
set_option linter.unusedSimpArgs false
namespace Go.Ev
open Go Go.RowKit
section load
theorem load_get : ∀ (l : List Value) (i : Nat) (r : Regs) (t : Nat), (load l i r).get t = if i ≤ t ∧ t < i + l.length then l[t - i]? else r.get t
  | [], i, r, t => by
    have : ¬ (i ≤ t ∧ t < i + ([] : List Value).length) := by simp only [List.length_nil]; omega
    rw [if_neg this]; rfl
  | v :: l, i, r, t => by
    show (load l (Nat.succ i) (r.set i v)).get t = _
    rw [load_get l (Nat.succ i) (r.set i v) t, T.get_set]
    simp only [List.length_cons]
    by_cases h : i = t
    · subst h
      rw [if_neg (by omega), if_pos rfl, if_pos (by omega)]
      simp
    · by_cases h1 : Nat.succ i ≤ t ∧ t < Nat.succ i + l.length
      · rw [if_pos h1, if_pos (by omega)]
        have : t - i = (t - Nat.succ i) + 1 := by omega
        rw [this, List.getElem?_cons_succ]
      · rw [if_neg h1, if_neg (by omega), if_neg (by omega)]
end load
section
variable {P : Program} {ω : Nat → Value} {B : Nat} {W0 : World} {μ : Mp} {w : World} {s s' : St}
theorem load_ok {args : List Value} {ras : Array Value} {k : Nat} (h : VRs ω μ args ras.toList) : RegR ω μ (Nat.max args.length k) (load args 0 .leaf) { tmps := ras ++ Array.replicate (k - ras.size) undef, defers := [] } := by
  have hl : args.length = ras.size := by simpa using h.1
  refine ⟨?_, rfl, fun t => ?_⟩
  · simp only [Array.size_append, Array.size_replicate]
    rw [← hl]
    show args.length + (k - args.length) = max args.length k
    omega
  · unfold getR
    rw [load_get]
    simp only [Nat.zero_le, true_and, Nat.zero_add, Nat.sub_zero, T.get_leaf]
    by_cases c : t < args.length
    · rw [if_pos c]
      have e1 : args[t]? = some args[t] := List.getElem?_eq_getElem c
      obtain ⟨u, hu, hv⟩ := h.get e1
      rw [e1]
      have : (ras ++ Array.replicate (k - ras.size) undef)[t]? = some u := by
        rw [Array.getElem?_append_left (by omega)]
        simpa using hu
      rw [Array.getD_eq_getD_getElem?, this]
      exact hv
    · rw [if_neg c]
      have : (ras ++ Array.replicate (k - ras.size) undef).getD t undef = undef := by
        rw [Array.getD_eq_getD_getElem?, Array.getElem?_append_right (by omega)]
        by_cases c2 : t - ras.size < k - ras.size <;> simp [c2]
      rw [this]
      exact VR.undef
theorem resultsOf_ok {n : Nat} {r : Regs} {a : Act} (hr : RegR ω μ n r a) {F : ResultVar → Sem Value} (hF1 : ∀ t, F (.tmp t) = pure (a.tmps.getD t undef)) (hF2 : ∀ x t, F (.cell x t) = do loadVar t (← asAddr (a.tmps.getD x undef))) : ∀ (l : List ResultVar) (s s' : St) (vs : List Value), resultsOf P r l s = some (vs, s') → Rel ω B W0 μ s.heap w →
    s' = s ∧ ∃ us, (l.mapM F).run P w = .ok us w ∧ VRs ω μ vs us
  | [], s, s', vs, h, hR => by
    unfold resultsOf at h
    obtain ⟨rfl, rfl⟩ := pure_inv h
    exact ⟨rfl, [], rfl, VRs.nil⟩
  | .tmp t :: l, s, s', vs, h, hR => by
    unfold resultsOf at h
    obtain ⟨vs1, s1, h1, h2⟩ := bind_inv h
    obtain ⟨rfl, us, hus, hv⟩ := resultsOf_ok hr hF1 hF2 l s s1 vs1 h1 hR
    obtain ⟨rfl, rfl⟩ := pure_inv h2
    refine ⟨rfl, a.tmps.getD t undef :: us, ?_, VRs.cons (hr.vals t) hv⟩
    rw [List.mapM_cons, hF1, pure_bind, Sem.run_bind, hus]
    rfl
  | .cell x t :: l, s, s', vs, h, hR => by
    unfold resultsOf at h
    obtain ⟨v, s0, h0, h3⟩ := bind_inv h
    obtain ⟨vs1, s1, h1, h2⟩ := bind_inv h3
    have hp : ∃ y, a.tmps.getD x undef = .pointer (some y) := by
      unfold doLoad at h0
      obtain ⟨⟨y, off⟩, s2, q1, q2⟩ := bind_inv h0
      obtain ⟨q3, _⟩ := opt_inv q1
      have := hr.vals x
      rw [place_inv q3] at this
      generalize a.tmps.getD x undef = u0 at this
      cases this
      exact ⟨_, rfl⟩
    obtain ⟨rfl, hg⟩ := doLoad_ok h0 (hr.vals x) hR
    obtain ⟨u, w', hu, hw, hvu⟩ := hg
    rw [hw] at hu
    obtain ⟨rfl, us, hus, hv⟩ := resultsOf_ok hr hF1 hF2 l s0 s1 vs1 h1 hR
    obtain ⟨rfl, rfl⟩ := pure_inv h2
    obtain ⟨y, hy⟩ := hp
    refine ⟨rfl, u :: us, ?_, VRs.cons hvu hv⟩
    rw [List.mapM_cons, hF2]
    rw [hy] at hu ⊢
    have hu' : (do loadVar t (← asAddr (.pointer (some y))) : Sem Value).run P w = .ok u w := hu
    rw [Sem.run_bind, hu', Result.andThen_ok, Sem.run_bind, hus]
    rfl
theorem results_ok {n : Nat} {r : Regs} {a : Act} {fn : Func} {vs : List Value} (hr : RegR ω μ n r a) (h : resultsOf P r fn.results.toList s = some (vs, s')) (hR : Rel ω B W0 μ s.heap w) :
    s' = s ∧ ∃ u, (results fn a.tmps).run P w = .ok u w ∧ VR ω μ (theResult vs) u := by
  obtain ⟨F, hF1, hF2, hF3⟩ : ∃ F : ResultVar → Sem Value, (∀ t, F (.tmp t) = pure (a.tmps.getD t undef)) ∧ (∀ x t, F (.cell x t) = do loadVar t (← asAddr (a.tmps.getD x undef))) ∧
      results fn a.tmps = (do let vs ← fn.results.mapM F; pure (if h : vs.size = 1 then vs[0] else .tuple vs)) := by
    refine ⟨_, ?_, ?_, rfl⟩
    · intro t; rfl
    · intro x t; rfl
  obtain ⟨rfl, us, hus, hv⟩ := resultsOf_ok hr hF1 hF2 fn.results.toList s s' vs h hR
  refine ⟨rfl, ?_⟩
  rw [hF3, Sem.run_bind, Array.mapM_eq_mapM_toList, Sem.run_map, hus]
  simp only [Result.andThen_ok]
  refine ⟨_, rfl, ?_⟩
  have hl := hv.1
  cases vs with
  | nil =>
    cases us with
    | nil => simp only [List.size_toArray, List.length_nil]; exact VR.tuple_of VRs.nil
    | cons _ _ => cases hl
  | cons v vs =>
    cases us with
    | nil => cases hl
    | cons u us =>
      cases vs with
      | nil =>
        cases us with
        | nil =>
          simp only [List.size_toArray, List.length_cons, List.length_nil]
          obtain ⟨u', h1, h2⟩ := hv.get (i := 0) rfl
          cases h1
          exact h2
        | cons _ _ => cases hl
      | cons v2 vs =>
        cases us with
        | nil => cases hl
        | cons u2 us =>
          have : ¬ ((u :: u2 :: us).toArray.size = 1) := by simp
          rw [dif_neg this]
          exact VR.tuple_of hv
end
end Go.Ev
