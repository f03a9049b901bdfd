import Derived.Test.YtfcjpkigaagnaaaGreatDoorYtNs2
set_option maxRecDepth 100000
namespace Go.Ev
open Go Go.Proofs
theorem hng_all : Tryz.prog.funcs.toList.all (fun fn => fn.body.isNone || !(fn.name == "runtime.NumGoroutine")) = true := by kernel_rfl
theorem hngT : ∀ (f : FuncId) (fn : Func), Tryz.prog.funcs[f]? = some fn → (fn.body.isNone || !(fn.name == "runtime.NumGoroutine")) = true := fun f fn h =>
  List.all_eq_true.1 hng_all fn (List.mem_of_getElem? (i := f) (by rw [Array.getElem?_toList]; exact h))
end Go.Ev
