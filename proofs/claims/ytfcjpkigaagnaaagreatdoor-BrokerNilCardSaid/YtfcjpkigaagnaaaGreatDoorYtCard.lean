/-
  PROVED: BrokerNil returns true for every argument, and its arguments read afterwards as before. Conditions: those of the card: the listed tables and sentinel errors hold what the program's text lays. (The law is run by an evaluator of the model that is proved sound.)
-/
import Derived.Test.YtfcjpkigaagnaaaGreatDoorRows
import Derived.Test.YtfcjpkigaagnaaaGreatDoorYtTie
import Derived.Test.YtfcjpkigaagnaaaGreatDoorCards
import Derived.Test.YtfcjpkigaagnaaaGreatDoorYtCw
import Derived.Test.YtfcjpkigaagnaaaGreatDoorYtCl
import Derived.Test.YtfcjpkigaagnaaaGreatDoorYtCg
import Derived.Test.YtfcjpkigaagnaaaGreatDoorYtRow
import Derived.Test.YtfcjpkigaagnaaaGreatDoorYtNat
import Derived.Test.YtfcjpkigaagnaaaGreatDoorYtHng
import Derived.ProofKit
import Derived.SizedLaws
import Derived.LaidMore
import Derived.Lay
import Derived.OpenShut
import Derived.Stop.Joined
import Derived.SevenTiedAt
set_option linter.unusedVariables false
set_option linter.unusedSimpArgs false
set_option maxRecDepth 100000
namespace Go.Proofs.YtfcjpkigaagnaaaGreatDoor
open Go.ChangeShapes Go.WideShapes Go.ChangeAt Go.RowKit Go.Ev
theorem BrokerNil.cm : Tryz.prog.mainIs = some (true, "0cb4c1dd068591aae0e133b8cb55f81f36134c81f04fe5db93b64219362181a4".toList) := by kernel_rfl
theorem BrokerNil.cs : ([25, 3].all fun u => !Tryz.prog.wantsStandIn u) = true := by kernel_rfl
theorem BrokerNil.cf : Tryz.prog.funcNamed Rows.brokerNilRow.func = some 3 := by kernel_rfl
theorem brokerNil_holds : Rows.BrokerNilCardSaid :=
  Claim7.holds_tied_plain_at .later [] [.sentinel, .sentinel, .data, .data, .data, .pinned, .data] true (true, "0cb4c1dd068591aae0e133b8cb55f81f36134c81f04fe5db93b64219362181a4") true
    BrokerNil.row (fun _ h => by cases h) BrokerNil.cw (fun _ h => by cases h) brokerNil_row_tie rfl ⟨rfl, rfl⟩ BrokerNil.cm rfl
    (fun f fn hf hfn => by
      obtain rfl : f = 3 := Option.some.inj (BrokerNil.cf.symm.trans hf) |>.symm
      obtain rfl : fn = Tryz.f3 := (Option.some.inj (Tryz.func3.symm.trans hfn)).symm
      exact ⟨BrokerNil.cl, fun j t ht => by
        rw [Tryz.params3] at ht
        have hm : t ∈ [25, 3] := by simpa using Array.mem_of_getElem? ht
        exact (show Tryz.prog.wantsStandIn t = false by simpa using List.all_eq_true.1 BrokerNil.cs t hm)⟩)
    BrokerNil.cg
end Go.Proofs.YtfcjpkigaagnaaaGreatDoor
