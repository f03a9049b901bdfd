/- PART YtRun2 of a proof by an evaluator of the model that is proved sound. -/
import Derived.Test.YtinbbhlmhknahaaGreatDoorYtNs2
import Derived.Test.YtinbbhlmhknahaaGreatDoorYtHng
import Derived.Test.YtinbbhlmhknahaaGreatDoorEvT
set_option linter.unusedVariables false
set_option linter.unusedSimpArgs false
set_option maxRecDepth 100000
namespace Go.Ev
open Go Go.RowKit Go.Proofs
/-- What stands in for the library's functions. -/
noncomputable def natK (f : FuncId) : Option (List Value → E Value) :=
  bif Nat.beq f 225 then some natClone
  else bif Nat.beq f 143 then some natCompare
  else bif Nat.beq f 284 then some natIndex
  else bif Nat.beq f 43 then some natSorted
  else bif Nat.beq f 44 then some natKeys
  else bif Nat.beq f 125 then some natUsed
  else none
def tab64 : List Int := [0, 1, 56, 2, 57, 49, 28, 3, 61, 58, 42, 50, 38, 29, 17, 4, 62, 47, 59, 36, 45, 43, 51, 22, 53, 39, 33, 30, 24, 18, 12, 5, 63, 55, 48, 27, 60, 41, 37, 16, 46, 35, 44, 21, 52, 32, 23, 11, 54, 26, 40, 15, 34, 20, 31, 10, 25, 14, 19, 9, 13, 8, 7, 6]
def globs : List (Nat × List Value) := [(3, tab64.map fun z => .int .u8 z)]
theorem run_true : okRun (evalCall Tryz.prog natK 100000 3 [.chan (some 0), .chan (some 1), .chan (some 2)] (start globs)) = true := by kernel_rfl
end Go.Ev
