import Derived.Test.YtfcjpkigaagnaaaGreatDoorYtS
set_option linter.unusedVariables false
namespace Go.Ev
open Go Go.RowKit Go.Proofs
/-- Sorting by laying in. -/
def insS (a : List UInt8) : List (List UInt8) → List (List UInt8)
  | [] => [a]
  | b :: l => bif decide (a ≤ b) then a :: b :: l else b :: insS a l
def sortS : List (List UInt8) → List (List UInt8)
  | [] => []
  | a :: l => insS a (sortS l)
theorem insS_perm (a : List UInt8) : ∀ l, (insS a l).Perm (a :: l)
  | [] => List.Perm.refl _
  | b :: l => by
    unfold insS
    cases decide (a ≤ b) with
    | true => exact List.Perm.refl _
    | false => exact (List.Perm.cons b (insS_perm a l)).trans (List.Perm.swap a b l)
theorem sortS_perm : ∀ l, (sortS l).Perm l
  | [] => List.Perm.refl _
  | a :: l => (insS_perm a _).trans (List.Perm.cons a (sortS_perm l))
theorem leS_total (a b : List UInt8) : a ≤ b ∨ b ≤ a := List.le_total a b
theorem insS_sorted (a : List UInt8) : ∀ l, l.Pairwise (fun x y => x ≤ y) → (insS a l).Pairwise (fun x y => x ≤ y)
  | [], _ => List.pairwise_singleton _ _
  | b :: l, h => by
    unfold insS
    cases hd : decide (a ≤ b) with
    | true =>
      have hab := of_decide_eq_true hd
      refine List.pairwise_cons.2 ⟨fun x hx => ?_, h⟩
      rcases List.mem_cons.1 hx with rfl | hx
      · exact hab
      · exact List.le_trans hab ((List.pairwise_cons.1 h).1 x hx)
    | false =>
      have hba := (leS_total a b).resolve_left (of_decide_eq_false hd)
      refine List.pairwise_cons.2 ⟨fun x hx => ?_, insS_sorted a l (List.pairwise_cons.1 h).2⟩
      have hx' := (insS_perm a l).mem_iff.1 hx
      rcases List.mem_cons.1 hx' with rfl | hx'
      · exact hba
      · exact (List.pairwise_cons.1 h).1 x hx'
theorem sortS_sorted : ∀ l, (sortS l).Pairwise (fun x y => x ≤ y)
  | [] => List.Pairwise.nil
  | a :: l => insS_sorted a _ (sortS_sorted l)
theorem sortS_eq {ks ss : List (List UInt8)} (h : ss.Perm ks) : ss.mergeSort (fun x y => decide (x ≤ y)) = sortS ks := by
  refine List.Perm.eq_of_pairwise (le := fun a b => a ≤ b) (fun a b _ _ h1 h2 => List.le_antisymm h1 h2) ?_ (sortS_sorted ks) (((List.mergeSort_perm ss _).trans h).trans (sortS_perm ks).symm)
  refine (List.pairwise_mergeSort (le := fun x y => decide (x ≤ y)) (fun a b c h1 h2 => ?_) (fun a b => ?_) ss).imp fun h => of_decide_eq_true h
  · exact decide_eq_true (List.le_trans (of_decide_eq_true h1) (of_decide_eq_true h2))
  · rcases leS_total a b with h | h
    · rw [decide_eq_true h]; rfl
    · rw [decide_eq_true h]; simp
end Go.Ev
