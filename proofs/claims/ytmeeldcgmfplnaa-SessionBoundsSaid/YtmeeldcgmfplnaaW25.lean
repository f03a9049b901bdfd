/-
  Contract: on; the plain law of SessionQuiet.
-/
import Derived.Test.YtmeeldcgmfplnaaW24
import Derived.Test.YtmeeldcgmfplnaaW13
import Derived.Deep.CutBlock
import Derived.Outline
set_option linter.unusedVariables false
set_option linter.unusedSimpArgs false
namespace Go.Proofs.Ytmeeldcgmfplnaa
open Go.RowKit
attribute [local go_sem] setRow_setCell_same setRow_setCell_other setRow_cell_same setRow_cell_other setRow_frozen setRow_shape
attribute [local go_sem ↓] Go.wp_at_zero Go.wp_at_succ

theorem ret_b {a b : Bool} (h : a = b) : Ending.returned (.bool a) = .returned (.bool b) := by rw [h]
def onB (xs : List Flt) (id : Int) : Bool := xs.any (fun f => f.id == id)

set_option maxRecDepth 100000 in
set_option maxHeartbeats 1000000 in
theorem on_any (xs : List Flt) (A : Option Addr) (c : Nat) (ok : Nat → Prop) (id : Int) (w : World) (h : Sl 88 kFlt ok w A c xs) :
    Calls Try.prog 19 #[.slice A xs.length c, .int .i64 id] w (PostB (onB xs id) w) := by
  have hl : xs.length ≤ 140737488355328 := by have := h.2.2.1; omega
  have H := Aside.mk h
  clear h
  go_enter Try.func19, Try.ntmps19
  go_wp2_with fail
  go_loopw [9] (fun i wr => ∃ k : Nat, k ≤ xs.length ∧ i = .int .i64 k ∧ Below w.heap.size w wr ∧ Aside (onB (xs.take k) id = false)) (fun i _ => xs.length - (intOf i).toNat)
  case atStart => exact ⟨0, Nat.zero_le _, rfl, Below.refl _ _, ⟨rfl⟩⟩
  case round =>
    obtain ⟨k, hk, rfl, hB, HY⟩ := hrel
    by_cases hlt : k < xs.length
    · have hlt' : (k : Int) < (xs.length : Int) := by omega
      have hk0 : (0 : Int) ≤ (k : Int) := by omega
      have hx : xs[k]? = some xs[k] := List.getElem?_eq_getElem hlt
      have ht := take_snoc xs k hlt
      obtain ⟨ad, A', c', rfl, hP, hw, e0, e1, e2, e3, e4, e5, e6, e7⟩ := flt_at (H.out.below hB).2.2.2 hlt hx
      have hmem : xs[k] ∈ xs := List.getElem_mem hlt
      generalize xs[k] = x at hx hP hw e0 e1 e2 e3 e4 e5 e6 e7 ht hmem
      have HB := Aside.mk hB; have HT := Aside.mk ht; have HM := Aside.mk hmem
      clear hx hP hw hB ht hmem
      have HB1 := Aside.mk (below_all HB.out HB.out.size ((Below.refl wr.heap.size wr).alloc (Nat.le_refl _) (.cells (fltCells x A' c').toArray 50)))
      cases hp : (x.id == id)
      · have HN : Aside (onB (xs.take (k + 1)) id = false) := ⟨by rw [HT.out]; unfold onB at HY ⊢; rw [List.any_append, HY.out]; simp [hp]⟩
        go_wp2_with fail
        go_roundw
        case rel => exact ⟨k + 1, by omega, by go_num, HB1.out, HN⟩
        case measure => simp [intOf]; omega
      · have HN : Aside (onB xs id = true) := ⟨List.any_eq_true.2 ⟨x, HM.out, hp⟩⟩
        go_wp2_with fail
        go_ret
        exact ⟨ret_b HN.out.symm, HB1.out⟩
    · have hge : decide (k < xs.length) = false := by simp; omega
      have HB := Aside.mk hB
      have HN : Aside (onB xs id = false) := ⟨by rw [← HY.out, List.take_of_length_le (by omega)]⟩
      clear hB
      go_wp2_with fail
      go_ret
      exact ⟨ret_b HN.out.symm, HB.out⟩

theorem quiet_find (xs : List Flt) (id : Int) (K : Nat) (h : onB xs id = false) : xs.findIdx? (findP id K) = none := by
  rw [List.findIdx?_eq_none_iff]
  intro f hf
  unfold onB at h
  rw [List.any_eq_false] at h
  have := h f hf
  unfold findP
  simp only [Bool.not_eq_true] at this
  rw [this]
  rfl
theorem quiet_puback (s : Ses) (id : Int) (h1 : 1 ≤ id) (h2 : id ≤ 65535) (h : onB s.flight id = false) : answerD s 4 id = (s, []) := by
  unfold answerD
  rw [if_neg (by omega), if_pos rfl, quiet_find _ _ _ h]
  rfl
theorem quiet_pubrec (s : Ses) (id : Int) (h1 : 1 ≤ id) (h2 : id ≤ 65535) (h : onB s.flight id = false) : answerD s 5 id = (s, [bareP 6 id]) := by
  unfold answerD
  rw [if_neg (by omega), if_neg (by decide), if_pos rfl, quiet_find _ _ _ h]
theorem quiet_pubcomp (s : Ses) (id : Int) (h1 : 1 ≤ id) (h2 : id ≤ 65535) (h : onB s.flight id = false) : answerD s 7 id = (s, []) := by
  unfold answerD
  rw [if_neg (by omega), if_neg (by decide), if_neg (by decide), if_pos rfl, quiet_find _ _ _ h]
  rfl
theorem quiet_pubrel (s : Ses) (id : Int) (h1 : 1 ≤ id) (h2 : id ≤ 65535) : answerD s 6 id = (freeS s id, [bareP 7 id]) := by
  unfold answerD
  rw [if_neg (by omega), if_neg (by decide), if_neg (by decide), if_neg (by decide), if_pos rfl]
end Go.Proofs.Ytmeeldcgmfplnaa
