/- PART EvKT of a proof by an evaluator of the model that is proved sound. -/
import Derived.Test.YtfcjpkigaagnaaaGreatDoorEvN
set_option linter.unusedVariables false
set_option linter.unusedSimpArgs false
namespace Go.Ev
open Go Go.RowKit
/-- A computation that leaves the tape alone. -/
def KT {α : Type} (P : Program) (m : Sem α) : Prop := ∀ w a w', m.run P w = .ok a w' → w'.tape = w.tape
section
variable {P : Program} {α β : Type}
theorem KT.pure (a : α) : KT P (pure a : Sem α) := fun w b w' h => by cases h; rfl
theorem KT.stuck (s : String) : KT P (Go.stuck s : Sem α) := fun w b w' h => by cases h
theorem KT.unsupported (u : Unsupported) : KT P (Go.unsupported u : Sem α) := fun w b w' h => by cases h
theorem KT.getObj (r : Nat) : KT P (Go.getObj r) := fun w b w' h => by
  simp only [Go.getObj, Sem.run] at h
  cases hh : w.heap[r]? with
  | none => rw [hh] at h; cases h
  | some o => rw [hh] at h; cases o <;> cases h <;> rfl
theorem KT.setObj (r : Nat) (o : Obj) : KT P (Go.setObj r o) := fun w b w' h => by
  simp only [Go.setObj, Sem.run] at h
  cases hh : w.heap[r]? with
  | none => rw [hh] at h; cases h
  | some o => rw [hh] at h; cases o <;> cases h <;> rfl
theorem KT.choose (q : Question) : KT P (Go.choose q) := fun w b w' h => by
  simp only [Go.choose, Sem.run] at h
  split at h <;> cases h <;> rfl
theorem KT.bind {m : Sem α} {f : α → Sem β} (hm : KT P m) (hf : ∀ a, KT P (f a)) : KT P (m >>= f) := fun w b w' h => by
  rw [Sem.run_bind] at h
  cases hr : m.run P w with
  | halt _ _ => rw [hr] at h; cases h
  | ok a w1 => rw [hr, Result.andThen_ok] at h; exact (hf a w1 b w' h).trans (hm w a w1 hr)
theorem KT.tail {as : Array (Option MapEntry)} {q : Question} {r : Nat} {O : MapEntry → Obj} {V : MapEntry → Value} {x y : Value} : KT P (do
    match as[← Go.choose q]? with
    | some (some e) => Go.setObj r (O e); Pure.pure (V e)
    | some none => Pure.pure x
    | none => Go.stuck "Next: no such candidate" : Sem Value) := by
  refine KT.bind (KT.choose _) fun j => ?_
  split
  · exact KT.bind (KT.setObj _ _) fun _ => KT.pure _
  · exact KT.pure _
  · exact KT.stuck _
theorem next_tape {w w' : World} {r m since last clock : Nat} {seen : Array Nat} {es : Array MapEntry} {ty : TypeId} {v : Value} (hb : w.heap[r]? = some (.mapIter (some m) since seen last)) (hm : w.heap[m]? = some (.map es clock))
    (hc : (!seen.isEmpty && !es.isEmpty && es.all (·.born ≥ last)) = false) (h : (Instr.next (.pointer (some ⟨r, 0, none⟩)) false ty).run P w = .ok v w') : w'.tape = w.tape := by
  unfold Instr.next at h
  have h := (Sem.run_bind P w (Go.getObj r) _).symm.trans h
  rw [run_getIter hb, Result.andThen_ok] at h
  dsimp only at h
  rw [Sem.run_bind, run_getMap hm, Result.andThen_ok] at h
  dsimp only at h
  rw [hc] at h
  simp only [Bool.false_eq_true, if_false] at h
  exact KT.tail (x := .tuple #[.bool false]) (y := .tuple #[]) w v w' h
end
end Go.Ev
