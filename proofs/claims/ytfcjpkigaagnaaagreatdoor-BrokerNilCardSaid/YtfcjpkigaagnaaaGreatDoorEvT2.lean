/- PART EvT2 of a proof by an evaluator of the model that is proved sound. -/
import Derived.Test.YtfcjpkigaagnaaaGreatDoorEvT
set_option linter.unusedVariables false
set_option linter.unusedSimpArgs false
namespace Go.Ev
open Go Go.RowKit
/-- So many unknown values. -/
def unkL (a n : Nat) : List Value := (List.range n).map fun i => .chan (some (a + i))
def omegaL (L : List Value) (k : Nat) : Value := L.getD k (.bool true)
theorem omegaL_one {L : List Value} (h : ∀ v ∈ L, v.oneCell' = true) (k : Nat) : (omegaL L k).oneCell' = true := by
  unfold omegaL
  rw [List.getD_eq_getElem?_getD]
  cases e : L[k]? with
  | none => rfl
  | some v => exact h v (List.mem_of_getElem? e)
theorem VRs.unk {ω : Nat → Value} {μ : Mp} {us : List Value} {a n : Nat} (hn : us.length = n) (h : ∀ i v, us[i]? = some v → ω (a + i) = v) : VRs ω μ (unkL a n) us := by
  refine ⟨by simp [unkL, hn], fun i v v' e e' => ?_⟩
  unfold unkL at e
  rw [List.getElem?_map] at e
  have hi : i < n := by
    rw [← hn]
    exact (List.getElem?_eq_some_iff.1 e').1
  rw [List.getElem?_range hi] at e
  simp only [Option.map_some, Option.some.injEq] at e
  subst e
  have := VR.unknown (ω := ω) (μ := μ) (a + i)
  rwa [h i v' e'] at this
theorem VR.unkAgg {ω : Nat → Value} {μ : Mp} {cs : Array Value} {a n : Nat} (hn : cs.size = n) (h : ∀ i v, cs[i]? = some v → ω (a + i) = v) : VR ω μ (.agg (unkL a n).toArray) (.agg cs) := by
  have := VR.agg_of (VRs.unk (ω := ω) (μ := μ) (us := cs.toList) (a := a) (n := n) (by simpa using hn) (fun i v e => h i v (by simpa using e)))
  simpa using this
theorem cell_one {P : Program} {w : World} {r : Reach} {base : Nat} {t : TypeId} {v : Value} (h : Cell.okWide P w r base t v) : v.oneCell' = true := by
  unfold Cell.okWide at h
  split at h
  all_goals first
    | rfl
    | (unfold Cell.ok at h
       split at h
       all_goals first | rfl | exact h.elim)
/-- The cells of a struct that is an argument. -/
theorem struct_arg {P : Program} {W : World} {base : Nat} {t : TypeId} {fs : Array Field} {n : Nat} {v : Value} (ht : P.underlying t = some (.struct fs)) (hc : P.cellsOf t = n) (h : Value.okWide P W .any base t v) :
    ∃ cs : Array Value, v = .agg cs ∧ cs.size = n ∧ ∀ x ∈ cs.toList, x.oneCell' = true := by
  unfold Value.okWide at h
  rw [ht] at h
  obtain ⟨cs, rfl, hs, ts, _, _, hall⟩ := h
  refine ⟨cs, rfl, hs.trans hc, fun x hx => ?_⟩
  obtain ⟨i, hi⟩ := List.getElem?_of_mem hx
  obtain ⟨u, _, hu⟩ := hall i x (by simpa using hi)
  exact cell_one hu
end Go.Ev
