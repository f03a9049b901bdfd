/- PART: the tie of the listed variables, one of its closed facts. -/
import Derived.Test.YtfcjpkigaagnaaaGreatDoorRows
import Derived.LaidByTextLater
import Derived.SevenTiedAt
namespace Go.Proofs.YtfcjpkigaagnaaaGreatDoor
open Go
theorem tieFact2 : Tryz.prog.worded rootWordLater = true := by kernel_rfl
end Go.Proofs.YtfcjpkigaagnaaaGreatDoor
