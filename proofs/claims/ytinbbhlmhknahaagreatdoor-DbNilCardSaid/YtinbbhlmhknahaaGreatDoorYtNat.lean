/- PART YtNat of a proof by an evaluator of the model that is proved sound. -/
import Derived.Test.YtinbbhlmhknahaaGreatDoorYtRun2
import Derived.ProofKit
set_option linter.unusedVariables false
set_option linter.unusedSimpArgs false
set_option maxRecDepth 100000
namespace Go.Proofs.YtinbbhlmhknahaaGreatDoor
open Go Go.RowKit Go.Ev
theorem n225a : (Tryz.f225.name == "runtime.NumGoroutine") = false := by kernel_rfl
theorem n225b : Tryz.f225.body.isNone = true := by kernel_rfl
theorem n225c : Extern.findNext Tryz.f225 = none := by kernel_rfl
theorem n225d : Extern.find Tryz.f225 = some Extern.MapsClone.clone := by kernel_rfl
theorem n143a : (Tryz.f143.name == "runtime.NumGoroutine") = false := by kernel_rfl
theorem n143b : Tryz.f143.body.isNone = true := by kernel_rfl
theorem n143c : Extern.findNext Tryz.f143 = none := by kernel_rfl
theorem n143d : Extern.find Tryz.f143 = some Extern.BytealgCompare.compare := by kernel_rfl
theorem n284a : (Tryz.f284.name == "runtime.NumGoroutine") = false := by kernel_rfl
theorem n284b : Tryz.f284.body.isNone = true := by kernel_rfl
theorem n284c : Extern.findNext Tryz.f284 = none := by kernel_rfl
theorem n284d : Extern.find Tryz.f284 = some Extern.BytealgIndexByte.indexByte := by kernel_rfl
theorem bifbeq {α : Type} (f n : Nat) (a b : α) : (bif Nat.beq f n then a else b) = if f = n then a else b := by
  cases h : Nat.beq f n with
  | true => rw [if_pos (Nat.eq_of_beq_eq_true h)]; rfl
  | false => rw [if_neg (fun e => by rw [e, Nat.beq_refl] at h; cases h)]; rfl
theorem natK_cases {f : FuncId} {g : List Value → E Value} (h : natK f = some g) :
    (f = 225 ∧ g = natClone) ∨ (f = 143 ∧ g = natCompare) ∨ (f = 284 ∧ g = natIndex) ∨ (f = 43 ∧ g = natSorted) ∨ (f = 44 ∧ g = natKeys) ∨ (f = 125 ∧ g = natUsed) := by
  unfold natK at h
  simp only [bifbeq] at h
  by_cases c1 : f = 225
  · rw [if_pos c1] at h; exact .inl ⟨c1, (Option.some.inj h).symm⟩
  rw [if_neg c1] at h
  by_cases c2 : f = 143
  · rw [if_pos c2] at h; exact .inr (.inl ⟨c2, (Option.some.inj h).symm⟩)
  rw [if_neg c2] at h
  by_cases c3 : f = 284
  · rw [if_pos c3] at h; exact .inr (.inr (.inl ⟨c3, (Option.some.inj h).symm⟩))
  rw [if_neg c3] at h
  by_cases c4 : f = 43
  · rw [if_pos c4] at h; exact .inr (.inr (.inr (.inl ⟨c4, (Option.some.inj h).symm⟩)))
  rw [if_neg c4] at h
  by_cases c5 : f = 44
  · rw [if_pos c5] at h; exact .inr (.inr (.inr (.inr (.inl ⟨c5, (Option.some.inj h).symm⟩))))
  rw [if_neg c5] at h
  by_cases c6 : f = 125
  · rw [if_pos c6] at h; exact .inr (.inr (.inr (.inr (.inr ⟨c6, (Option.some.inj h).symm⟩))))
  rw [if_neg c6] at h
  cases h
theorem natK_fr : ∀ f g, natK f = some g → ∀ xs, Fr (g xs) := by
  intro f g h xs
  rcases natK_cases h with ⟨_, rfl⟩ | ⟨_, rfl⟩ | ⟨_, rfl⟩ | ⟨_, rfl⟩ | ⟨_, rfl⟩ | ⟨_, rfl⟩
  · exact Fr.natClone xs
  · exact Fr.natCompare xs
  · exact Fr.natIndex xs
  · exact Fr.natSorted xs
  · exact Fr.natKeys xs
  · exact Fr.natUsed xs
theorem ok225 {ω : Nat → Value} {B : Nat} {W0 : World} : NatOk Tryz.prog ω B W0 225 natClone := natClone_ok (P := Tryz.prog) (f := 225) (fn := Tryz.f225) Tryz.func225 n225a n225b n225c n225d
theorem ok143 {ω : Nat → Value} {B : Nat} {W0 : World} : NatOk Tryz.prog ω B W0 143 natCompare := natCompare_ok (P := Tryz.prog) (f := 143) (fn := Tryz.f143) Tryz.func143 n143a n143b n143c n143d
theorem ok284 {ω : Nat → Value} {B : Nat} {W0 : World} : NatOk Tryz.prog ω B W0 284 natIndex := natIndex_ok (P := Tryz.prog) (f := 284) (fn := Tryz.f284) Tryz.func284 n284a n284b n284c n284d
theorem natK_ok {ω : Nat → Value} {B : Nat} {W0 : World} : ∀ f g, natK f = some g → NatOk Tryz.prog ω B W0 f g := by
  intro f g h
  rcases natK_cases h with ⟨e, e'⟩ | ⟨e, e'⟩ | ⟨e, e'⟩ | ⟨e, e'⟩ | ⟨e, e'⟩ | ⟨e, e'⟩ <;> rw [e, e']
  · exact ok225
  · exact ok143
  · exact ok284
  · exact natSorted_ok
  · exact natKeys_ok
  · exact natUsed_ok
end Go.Proofs.YtinbbhlmhknahaaGreatDoor
