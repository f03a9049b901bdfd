/- PART: one of the closed facts of the card: no body starts a goroutine. -/
import Derived.Test.YtfcjpkigaagnaaaGreatDoorRows
import Derived.Test.YtfcjpkigaagnaaaGreatDoorCards
import Derived.ProofKit
import Derived.SevenTiedAt
set_option maxRecDepth 100000
namespace Go.Proofs.YtfcjpkigaagnaaaGreatDoor
open Go.ChangeShapes Go.WideShapes Go.ChangeAt Go.RowKit
theorem BrokerNil.noGo : (Tryz.prog.funcs.toList.any Func.goes) = false := by kernel_rfl
theorem BrokerNil.goes_none {P : Program} (h : (P.funcs.toList.any Func.goes) = false) (f : FuncId) : P.goes f = false := by
  have hg : ∀ g : FuncId, (P.funcs[g]?).any Func.goes = false := fun g => by
    cases hf : P.funcs[g]? with
    | none => rfl
    | some fn =>
      have hm : fn ∈ P.funcs.toList := by
        rw [Array.mem_toList_iff]
        exact Array.mem_of_getElem? hf
      have := List.any_eq_false.1 h fn hm
      simpa using this
  have h2 : P.funcs.any Func.goes = false := by rw [← Array.any_toList]; exact h
  unfold Program.goes
  rw [h2, Bool.and_false, Bool.or_false]
  exact List.any_eq_false.2 fun g _ => by simp [hg g]
theorem BrokerNil.goesAt_none {P : Program} (h : (P.funcs.toList.any Func.goes) = false) (start : Start) (func : String) : P.goesAt start func = false := by
  unfold Program.goesAt Program.goesFrom
  have h1 : ((P.funcNamed func).any P.goes) = false := by
    cases (P.funcNamed func) with
    | none => rfl
    | some f => exact BrokerNil.goes_none h f
  have h3 : (P.inits.toList.any P.goes) = false := List.any_eq_false.2 fun g _ => by simp [BrokerNil.goes_none h g]
  rw [h1, h3]
  cases start <;> rfl
theorem BrokerNil.cg : false = Rows.brokerNilRow.goesBy Tryz.prog := (BrokerNil.goesAt_none BrokerNil.noGo _ _).symm
end Go.Proofs.YtfcjpkigaagnaaaGreatDoor
