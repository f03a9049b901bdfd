/- PART of the proof of BrokerNil: see YtfcjpkigaagnaaaGreatDoorYtCard. -/
import Derived.Test.YtfcjpkigaagnaaaGreatDoorRows
import Derived.Test.YtfcjpkigaagnaaaGreatDoorYtTie
import Derived.Test.YtfcjpkigaagnaaaGreatDoorCards
import Derived.Test.YtfcjpkigaagnaaaGreatDoorYtLift
import Derived.Test.YtfcjpkigaagnaaaGreatDoorYtFacts
import Derived.Test.YtfcjpkigaagnaaaGreatDoorYtNat
import Derived.Test.YtfcjpkigaagnaaaGreatDoorYtHng
import Derived.ProofKit
import Derived.SizedLaws
import Derived.LaidMore
import Derived.Lay
import Derived.OpenShut
import Derived.Stop.Joined
import Derived.SevenTiedAt
set_option linter.unusedVariables false
set_option linter.unusedSimpArgs false
set_option maxRecDepth 100000
namespace Go.Proofs.YtfcjpkigaagnaaaGreatDoor
open Go.ChangeShapes Go.WideShapes Go.ChangeAt Go.RowKit Go.Ev
namespace BrokerNil
theorem row : Rows.BrokerNilSaid :=
  OpenClaim.holds_of_wide 3 Tryz.f3 rfl rfl rfl rfl rfl rfl rfl ⟨rfl, rfl, rfl, rfl, rfl⟩ rfl rfl rfl rfl rfl (by kernel_rfl) Tryz.func3 facts
    (of_decide_eq_true (by kernel_rfl)) (by unfold Func.isWrapper; first | (rw [if_pos (by decide +kernel)]; kernel_rfl) | (rw [if_neg (by decide +kernel)]; exact ⟨rfl, rfl⟩))
    (fun os started H enc _ => lifted os started H enc)
end BrokerNil
end Go.Proofs.YtfcjpkigaagnaaaGreatDoor
