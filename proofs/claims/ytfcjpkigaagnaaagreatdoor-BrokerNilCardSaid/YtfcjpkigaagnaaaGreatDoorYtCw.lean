/- PART: one of the closed facts of the card. -/
import Derived.Test.YtfcjpkigaagnaaaGreatDoorRows
import Derived.Test.YtfcjpkigaagnaaaGreatDoorCards
import Derived.ProofKit
import Derived.SevenTiedAt
set_option maxRecDepth 100000
namespace Go.Proofs.YtfcjpkigaagnaaaGreatDoor
open Go.ChangeShapes Go.WideShapes Go.ChangeAt Go.RowKit
theorem BrokerNil.cw : Rows.brokerNilRow.wfByText (OpenSpec.ofChange Rows.brokerNilSpec) = true := by kernel_rfl
end Go.Proofs.YtfcjpkigaagnaaaGreatDoor
