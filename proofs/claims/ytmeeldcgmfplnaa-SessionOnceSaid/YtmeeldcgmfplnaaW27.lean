/-
  The plain law of SessionOnce.
-/
import Derived.Test.YtmeeldcgmfplnaaW26
set_option linter.unusedVariables false
set_option linter.unusedSimpArgs false
namespace Go.Proofs.Ytmeeldcgmfplnaa
open Go.RowKit Go.BigFrame
attribute [local go_sem] setRow_setCell_same setRow_setCell_other setRow_cell_same setRow_cell_other setRow_frozen setRow_shape
attribute [local go_sem ↓] Go.wp_at_zero Go.wp_at_succ

def idsS (l : List Int) : Ses := { ses0 with ids := l }
theorem insI_mem (l : List Int) (i : Nat) (x y : Int) : y ∈ insI l i x ↔ y = x ∨ y ∈ l := by
  unfold insI
  rw [List.mem_append, List.mem_cons]
  have h : y ∈ l ↔ y ∈ l.take i ∨ y ∈ l.drop i := by rw [← List.mem_append, List.take_append_drop]
  rw [h]
  constructor
  · rintro (h | h | h)
    · exact .inr (.inl h)
    · exact .inl h
    · exact .inr (.inr h)
  · rintro (h | h | h)
    · exact .inr (.inl h)
    · exact .inl h
    · exact .inr (.inr h)
theorem once_step (l : List Int) (id n : Int) (k : Nat) (hn : n ≠ id) (h1 : l.length ≤ k) (h2 : id ∉ l) : ∃ l' a b, takeD (idsS l) n = (idsS l', a, b) ∧ l'.length ≤ k + 1 ∧ id ∉ l' := by
  unfold takeD
  split
  · exact ⟨l, _, _, rfl, by omega, h2⟩
  · split
    · exact ⟨l, _, _, rfl, by omega, h2⟩
    · split
      · exact ⟨l, _, _, rfl, by omega, h2⟩
      · refine ⟨insI l (placeT l n) n, _, _, rfl, ?_, ?_⟩
        · rw [insI_len _ _ _ (placeT_le _ _)]; omega
        · rw [insI_mem]
          rintro (h | h)
          · exact hn h.symm
          · exact h2 h
theorem once_bad (l : List Int) (id : Int) (h : id < 1 ∨ 65535 < id) : takeD (idsS l) id = (idsS l, false, false) := by
  unfold takeD
  rw [if_pos h]
theorem once_new (l : List Int) (id : Int) (h1 : 1 ≤ id) (h2 : id ≤ 65535) (hl : l.length ≤ 40) (h : id ∉ l) : takeD (idsS l) id = (idsS (insI l (placeT l id) id), true, false) := by
  have hc : (idsS l).ids.contains id = false := by
    cases hh : (idsS l).ids.contains id with
    | false => rfl
    | true => exact absurd (List.contains_iff_mem.1 hh) h
  unfold takeD
  rw [if_neg (by omega), hc, if_neg (by decide), if_neg (by show ¬ 64 ≤ l.length; omega)]
  rfl
theorem once_again (l : List Int) (id : Int) (h1 : 1 ≤ id) (h2 : id ≤ 65535) (i : Nat) : takeD (idsS (insI l i id)) id = (idsS (insI l i id), false, false) := by
  have hc : (idsS (insI l i id)).ids.contains id = true := List.contains_iff_mem.2 ((insI_mem l i id id).2 (.inl rfl))
  unfold takeD
  rw [if_neg (by omega), hc, if_pos rfl]
theorem once_free (l : List Int) (id : Int) (h1 : 1 ≤ id) (h2 : id ≤ 65535) (i : Nat) (h : id ∉ l) : answerD (idsS (insI l i id)) 6 id = (idsS l, [bareP 7 id]) := by
  rw [quiet_pubrel _ _ h1 h2]
  have e : (insI l i id).filter (fun x => !(x == id)) = l := by
    unfold insI
    rw [List.filter_append, List.filter_cons]
    simp only [beq_self_eq_true, Bool.not_true, Bool.false_eq_true, if_false]
    rw [← List.filter_append, List.take_append_drop, List.filter_eq_self]
    intro a ha
    have : a ≠ id := fun e => h (e ▸ ha)
    simpa using this
  unfold freeS idsS
  simp only [e]
end Go.Proofs.Ytmeeldcgmfplnaa
