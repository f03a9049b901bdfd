import Derived.Test.YtfcjpkigaagnaaaGreatDoorYtNs2
import Derived.Test.YtfcjpkigaagnaaaGreatDoorEvN2
import Derived.Test.YtfcjpkigaagnaaaGreatDoorEvT2
import Derived.Test.YtfcjpkigaagnaaaGreatDoorYtStr
import Derived.ProofKit
set_option linter.unusedVariables false
set_option linter.unusedSimpArgs false
set_option maxRecDepth 100000
namespace Go.Proofs.YtfcjpkigaagnaaaGreatDoor
open Go Go.RowKit Go.Ev
/-- What stands in for some functions of the library, by number. -/
noncomputable def natLook (l : List (Nat × (List Value → E Value))) : Nat → Option (List Value → E Value) :=
  List.rec (motive := fun _ => Nat → Option (List Value → E Value)) (fun _ => none) (fun p _ ih f => bif Nat.beq f p.1 then some p.2 else ih f) l
theorem natLook_mem {f : Nat} {g : List Value → E Value} : ∀ (l : List (Nat × (List Value → E Value))), natLook l f = some g → (f, g) ∈ l
  | [], h => by cases h
  | (n, g') :: l, h => by
    have h' : (bif Nat.beq f n then some g' else natLook l f) = some g := h
    cases hb : Nat.beq f n with
    | true =>
      rw [hb] at h'
      have h2 : g' = g := Option.some.inj h'
      rw [Nat.eq_of_beq_eq_true hb, h2]
      exact List.mem_cons_self
    | false =>
      rw [hb] at h'
      exact List.mem_cons_of_mem _ (natLook_mem l h')
noncomputable def nats : List (Nat × (List Value → E Value)) :=
  [(50, natClone), (231, natCompare), (532, natIndex), (123, natSorted),
   (124, natKeys), (442, natUsed), (519, natIndexB), (420, natStr)]
noncomputable def natK : Nats := natLook nats
theorem n1a : (Tryz.f50.name == "runtime.NumGoroutine") = false := by kernel_rfl
theorem n1b : Tryz.f50.body.isNone = true := by kernel_rfl
theorem n1c : Extern.findNext Tryz.f50 = none := by kernel_rfl
theorem n1d : Extern.find Tryz.f50 = some Extern.MapsClone.clone := by kernel_rfl
theorem n2a : (Tryz.f231.name == "runtime.NumGoroutine") = false := by kernel_rfl
theorem n2b : Tryz.f231.body.isNone = true := by kernel_rfl
theorem n2c : Extern.findNext Tryz.f231 = none := by kernel_rfl
theorem n2d : Extern.find Tryz.f231 = some Extern.BytealgCompare.compare := by kernel_rfl
theorem n3a : (Tryz.f532.name == "runtime.NumGoroutine") = false := by kernel_rfl
theorem n3b : Tryz.f532.body.isNone = true := by kernel_rfl
theorem n3c : Extern.findNext Tryz.f532 = none := by kernel_rfl
theorem n3d : Extern.find Tryz.f532 = some Extern.BytealgIndexByte.indexByte := by kernel_rfl
theorem n4a : (Tryz.f519.name == "runtime.NumGoroutine") = false := by kernel_rfl
theorem n4b : Tryz.f519.body.isNone = true := by kernel_rfl
theorem n4c : Extern.findNext Tryz.f519 = none := by kernel_rfl
theorem n4d : Extern.find Tryz.f519 = some Extern.BytealgIndexByte.indexByte := by kernel_rfl
theorem n5a : (Tryz.f420.name == "runtime.NumGoroutine") = false := by kernel_rfl
section
variable {ω : Nat → Value} {B : Nat} {W0 : World}
theorem ok1 : NatOk Tryz.prog ω B W0 50 natClone := natClone_ok (P := Tryz.prog) (f := 50) (fn := Tryz.f50) Tryz.func50 n1a n1b n1c n1d
theorem ok2 : NatOk Tryz.prog ω B W0 231 natCompare := natCompare_ok (P := Tryz.prog) (f := 231) (fn := Tryz.f231) Tryz.func231 n2a n2b n2c n2d
theorem ok3 : NatOk Tryz.prog ω B W0 532 natIndex := natIndex_ok (P := Tryz.prog) (f := 532) (fn := Tryz.f532) Tryz.func532 n3a n3b n3c n3d
theorem ok4 : NatOk Tryz.prog ω B W0 519 natIndexB := natIndexB_ok (P := Tryz.prog) (f := 519) (fn := Tryz.f519) Tryz.func519 n4a n4b n4c n4d
theorem ok5 : NatOk Tryz.prog ω B W0 420 natStr := by
  obtain ⟨code, hcode⟩ : ∃ code, Tryz.f420.body = some code := Option.isSome_iff_exists.1 (by kernel_rfl)
  exact natStr_ok (P := Tryz.prog) (f := 420) (fn := Tryz.f420) Tryz.func420 n5a hcode fun s w hs => Tryz.clone_str s w hs
theorem natK_ok : ∀ f g, natK f = some g → NatOk Tryz.prog ω B W0 f g := by
  intro f g h
  have hm := natLook_mem _ h
  unfold nats at hm
  simp only [List.mem_cons, List.not_mem_nil, or_false, Prod.mk.injEq] at hm
  rcases hm with ⟨e, e'⟩ | ⟨e, e'⟩ | ⟨e, e'⟩ | ⟨e, e'⟩ | ⟨e, e'⟩ | ⟨e, e'⟩ | ⟨e, e'⟩ | ⟨e, e'⟩ <;> rw [e, e']
  · exact ok1
  · exact ok2
  · exact ok3
  · exact natSorted_ok
  · exact natKeys_ok
  · exact natUsed_ok
  · exact ok4
  · exact ok5
end
theorem natK_fr : ∀ f g, natK f = some g → ∀ xs, Fr (g xs) := by
  intro f g h xs
  have hm := natLook_mem _ h
  unfold nats at hm
  simp only [List.mem_cons, List.not_mem_nil, or_false, Prod.mk.injEq] at hm
  rcases hm with ⟨e, e'⟩ | ⟨e, e'⟩ | ⟨e, e'⟩ | ⟨e, e'⟩ | ⟨e, e'⟩ | ⟨e, e'⟩ | ⟨e, e'⟩ | ⟨e, e'⟩ <;> rw [e']
  · exact Fr.natClone xs
  · exact Fr.natCompare xs
  · exact Fr.natIndex xs
  · exact Fr.natSorted xs
  · exact Fr.natKeys xs
  · exact Fr.natUsed xs
  · exact Fr.natIndexB xs
  · exact Fr.natStr xs
end Go.Proofs.YtfcjpkigaagnaaaGreatDoor
