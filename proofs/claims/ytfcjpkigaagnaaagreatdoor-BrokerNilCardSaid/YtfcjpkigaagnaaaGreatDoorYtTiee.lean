/- PART: the tie of the listed variables, one of its closed facts. -/
import Derived.Test.YtfcjpkigaagnaaaGreatDoorRows
import Derived.LaidByTextLater
import Derived.SevenTiedAt
namespace Go.Proofs.YtfcjpkigaagnaaaGreatDoor
open Go
theorem tieFact4 : (Tryz.prog.funcNamed "gosem.cut.vars").isSome = true := by kernel_rfl
end Go.Proofs.YtfcjpkigaagnaaaGreatDoor
