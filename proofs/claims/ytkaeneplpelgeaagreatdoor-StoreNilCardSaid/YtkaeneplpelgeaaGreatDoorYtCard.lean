/-
  PROVED: StoreNil returns true for every argument, and its arguments read afterwards as before. Conditions: those of the card: the listed tables and sentinel errors hold what the program's text lays. (The law is run by an evaluator of the model that is proved sound.)
-/
import Derived.Test.YtkaeneplpelgeaaGreatDoorRows
import Derived.Test.YtkaeneplpelgeaaGreatDoorTie
import Derived.Test.YtkaeneplpelgeaaGreatDoorCards
import Derived.Test.YtkaeneplpelgeaaGreatDoorYtRow
import Derived.Test.YtkaeneplpelgeaaGreatDoorYtNat
import Derived.Test.YtkaeneplpelgeaaGreatDoorYtHng
import Derived.ProofKit
import Derived.SizedLaws
import Derived.LaidMore
import Derived.Lay
import Derived.OpenShut
import Derived.Stop.Joined
import Derived.SevenTiedAt
set_option linter.unusedVariables false
set_option linter.unusedSimpArgs false
set_option maxRecDepth 100000
namespace Go.Proofs.YtkaeneplpelgeaaGreatDoor
open Go.ChangeShapes Go.WideShapes Go.ChangeAt Go.RowKit Go.Ev
theorem StoreNil.cw : Rows.storeNilRow.wfByText (OpenSpec.ofChange Rows.storeNilSpec) = true := by kernel_rfl
theorem StoreNil.cm : Tryz.prog.mainIs = some (true, "e7ca9327dc0beae2273969494b3366c249f5e060669387cae44fa6148e4c49a2".toList) := by kernel_rfl
theorem StoreNil.cl : true = Tryz.prog.looks [] := by kernel_rfl
theorem StoreNil.cg : false = Rows.storeNilRow.goesBy Tryz.prog := by kernel_rfl
theorem StoreNil.cs : ([9].all fun u => !Tryz.prog.wantsStandIn u) = true := by kernel_rfl
theorem StoreNil.cf : Tryz.prog.funcNamed Rows.storeNilRow.func = some 3 := by kernel_rfl
theorem storeNil_holds : Rows.StoreNilCardSaid :=
  Claim7.holds_tied_plain_at .later [] [.data, .data, .data, .data, .sentinel, .sentinel, .pinned] true (true, "e7ca9327dc0beae2273969494b3366c249f5e060669387cae44fa6148e4c49a2") true
    StoreNil.row (fun _ h => by cases h) StoreNil.cw (fun _ h => by cases h) storeNil_row_tie rfl ⟨rfl, rfl⟩ StoreNil.cm rfl
    (fun f fn hf hfn => by
      obtain rfl : f = 3 := Option.some.inj (StoreNil.cf.symm.trans hf) |>.symm
      obtain rfl : fn = Tryz.f3 := (Option.some.inj (Tryz.func3.symm.trans hfn)).symm
      exact ⟨StoreNil.cl, fun j t ht => by
        rw [Tryz.params3] at ht
        have hm : t ∈ [9] := by simpa using Array.mem_of_getElem? ht
        exact (show Tryz.prog.wantsStandIn t = false by simpa using List.all_eq_true.1 StoreNil.cs t hm)⟩)
    StoreNil.cg
end Go.Proofs.YtkaeneplpelgeaaGreatDoor
