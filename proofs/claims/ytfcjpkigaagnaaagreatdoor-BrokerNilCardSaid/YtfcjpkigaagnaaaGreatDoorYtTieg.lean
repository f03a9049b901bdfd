/- PART: the tie of the listed variables, one of its closed facts. -/
import Derived.Test.YtfcjpkigaagnaaaGreatDoorRows
import Derived.LaidByTextLater
import Derived.SevenTiedAt
namespace Go.Proofs.YtfcjpkigaagnaaaGreatDoor
open Go
theorem tieFact6 : ∀ (os : Os) (tape : Tape), varsDone Tryz.prog 400 (varsId Tryz.prog) os tape = true := fun _ _ => by kernel_rfl
end Go.Proofs.YtfcjpkigaagnaaaGreatDoor
