/- PART YtCalls of a proof by an evaluator of the model that is proved sound. -/
import Derived.Test.YtinbbhlmhknahaaGreatDoorYtNat
set_option linter.unusedVariables false
set_option linter.unusedSimpArgs false
set_option maxRecDepth 100000
namespace Go.Proofs.YtinbbhlmhknahaaGreatDoor
open Go Go.RowKit Go.Ev
def omega3 (a b c : Value) : Nat → Value
  | 0 => a
  | 1 => b
  | _ => c
theorem dbNil_calls {W : World} {a b c : Value} (ha : a.oneCell' = true) (hb : b.oneCell' = true) (hc : c.oneCell' = true) (hg : GlobIs W 3 (tab64.map fun z => .int .u8 z)) :
    Calls Tryz.prog 3 #[a, b, c] W fun e W' => e = .returned (.bool true) ∧ Below W.heap.size W W' := by
  obtain ⟨code, hcode⟩ : ∃ code, Tryz.f3.body = some code := Option.isSome_iff_exists.1 (by kernel_rfl)
  refine calls_true (ras := [a, b, c]) (ω := omega3 a b c) (evalCall_ok (by kernel_rfl) (fun k => ?_) natK_fr natK_ok hngT 100000) Tryz.func3 (by kernel_rfl) hcode ?_ run_true ?_
  · match k with
    | 0 => exact ha
    | 1 => exact hb
    | _ + 2 => exact hc
  · intro g tab hm
    unfold globs at hm
    rw [List.mem_singleton] at hm
    cases hm
    exact hg
  · exact VRs.cons (VR.unknown (ω := omega3 a b c) 0) (VRs.cons (VR.unknown (ω := omega3 a b c) 1) (VRs.cons (VR.unknown (ω := omega3 a b c) 2) VRs.nil))
end Go.Proofs.YtinbbhlmhknahaaGreatDoor
