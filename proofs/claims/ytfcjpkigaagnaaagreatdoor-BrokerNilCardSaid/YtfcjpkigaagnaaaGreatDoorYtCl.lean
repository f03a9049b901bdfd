/- PART: one of the closed facts of the card. -/
import Derived.Test.YtfcjpkigaagnaaaGreatDoorRows
import Derived.Test.YtfcjpkigaagnaaaGreatDoorCards
import Derived.ProofKit
import Derived.SevenTiedAt
set_option maxRecDepth 100000
namespace Go.Proofs.YtfcjpkigaagnaaaGreatDoor
open Go.ChangeShapes Go.WideShapes Go.ChangeAt Go.RowKit
theorem BrokerNil.cl : true = Tryz.prog.looks [] := by kernel_rfl
end Go.Proofs.YtfcjpkigaagnaaaGreatDoor
