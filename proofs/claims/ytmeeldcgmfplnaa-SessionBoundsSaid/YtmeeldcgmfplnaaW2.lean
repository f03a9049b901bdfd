/-
  Contracts: slices.Clone at the two element types, and session.own.
-/
import Derived.Test.YtmeeldcgmfplnaaW1
import Derived.Lib.SliceRun
set_option linter.unusedVariables false
set_option linter.unusedSimpArgs false
namespace Go.Proofs.Ytmeeldcgmfplnaa
open Go.RowKit
attribute [local go_sem] setRow_setCell_same setRow_setCell_other setRow_cell_same setRow_cell_other setRow_frozen setRow_shape

theorem info81 : (Try.prog.info? 81).map (fun i => (i.zero, i.size, i.bytes)) = some (some (.agg #[.string ⟨#[]⟩, .int .i64 0]), 2, 24) := by kernel_rfl

/-- What Clone leaves: the same elements in new memory. -/
def PostClone {α : Type} (t : TypeId) (d : Kn α) (xs : List α) (w : World) (e : Ending) (w' : World) : Prop :=
  ∃ v, e = .returned v ∧ Own t d (fun b => w.heap.size ≤ b) w.heap.size w' v xs ∧ Below w.heap.size w w'

/-- An empty slice literal is a row of the call's own. -/
theorem Own.empty {α : Type} (t : TypeId) (d : Kn α) (w : World) (cs : Array Value) (hcs : cs = #[]) : Own t d (fun b => w.heap.size ≤ b) w.heap.size (w.alloc (.cells cs t)) (.slice (some ⟨w.heap.size, 0, none⟩) 0 0) [] := by
  subst hcs
  exact ⟨fun k hk => by simp [Value.ownBlock] at hk; omega, [], World.ownsRow_made w #[] 0 (Nat.le_refl _) (by decide) (by simp), Reps.nil _ _⟩

set_option maxHeartbeats 400000 in
theorem cloneW_any (xs : List Want) (A : Option Addr) (c : Nat) (ok : Nat → Prop) (w : World) (h : Sl 24 kWant ok w A c xs) :
    Calls Try.prog 48 #[.slice A xs.length c] w (PostClone 81 kWant xs w) := by
  have H := Aside.mk h
  clear h
  rcases A with _ | ad
  · have he := Lib.run_eql_slice_nil (P := Try.prog) w 22 81 none xs.length c 0 0 Try.underlying22
    go_enter Try.func48, Try.ntmps48
    go_wp2
    go_ret
    obtain ⟨h1, _, _, h2⟩ := H.out
    have hx : xs = [] := by
      rcases Nat.eq_zero_or_pos xs.length with h0 | h0
      · exact List.eq_nil_of_length_eq_zero h0
      · obtain ⟨ad, cs, e, _⟩ := h2.2 h0
        cases e
    subst hx
    exact ⟨_, rfl, Own.nil _ _ _ _ _, Below.refl _ _⟩
  · have he := Lib.run_eql_slice_nil (P := Try.prog) w 22 81 (some ad) xs.length c 0 0 Try.underlying22
    go_enter Try.func48, Try.ntmps48
    go_wp2_with (at_builtin; go_must (refine wpList_append_Own (P := Try.prog) _ rfl kWant (.tmp 5) (.tmp 6) 22 81 rfl (.agg #[.string ⟨#[]⟩, .int .i64 0]) 24 Try.underlying22 info81 rfl (by decide) (ok := fun b => w.heap.size ≤ b) (okp := fun b => w.heap.size + 1 ≤ b) (lo := w.heap.size) (v := .slice (some ⟨w.heap.size, 0, none⟩) 0 0) (xs := []) (ys := xs) rfl (Own.empty 81 kWant w _ rfl) (A := some ad) (m := xs.length) (c := c) rfl ?c1 ?c2 ?c3 ?c4 ?c5 ?_))
    case c1 => exact Kn.C_free (d := kWant) (ok := ok) (Kn.C_below H.out.2.2.2 ((Below.refl _ _).alloc (Nat.le_refl _) _))
    case c2 => exact fun b hb _ => ⟨by omega, by simp [Value.ownBlock]; omega⟩
    case c3 => exact fun b hb => by simp at hb; omega
    case c4 => simp
    case c5 => simpa using H.out.2.2.1
    intro v1 w1 hO hg _
    have HO := Aside.mk hO
    have HB := Aside.mk (((Below.refl w.heap.size w).alloc (Nat.le_refl _) _).grown hg (by simp) (fun k hk => by simp [Value.ownBlock] at hk; omega))
    clear hO hg
    go_wp2
    go_ret
    exact ⟨_, rfl, HO.out, HB.out⟩

set_option maxHeartbeats 400000 in
theorem cloneI_any (xs : List Int) (A : Option Addr) (c : Nat) (ok : Nat → Prop) (w : World) (h : Sl 8 kI64 ok w A c xs) :
    Calls Try.prog 49 #[.slice A xs.length c] w (PostClone 3 kI64 xs w) := by
  have H := Aside.mk h
  clear h
  rcases A with _ | ad
  · have he := Lib.run_eql_slice_nil (P := Try.prog) w 25 3 none xs.length c 0 0 Try.underlying25
    go_enter Try.func49, Try.ntmps49
    go_wp2
    go_ret
    obtain ⟨h1, _, _, h2⟩ := H.out
    have hx : xs = [] := by
      rcases Nat.eq_zero_or_pos xs.length with h0 | h0
      · exact List.eq_nil_of_length_eq_zero h0
      · obtain ⟨ad, cs, e, _⟩ := h2.2 h0
        cases e
    subst hx
    exact ⟨_, rfl, Own.nil _ _ _ _ _, Below.refl _ _⟩
  · have he := Lib.run_eql_slice_nil (P := Try.prog) w 25 3 (some ad) xs.length c 0 0 Try.underlying25
    go_enter Try.func49, Try.ntmps49
    go_wp2_with (at_builtin; go_must (refine wpList_append_Own (P := Try.prog) _ rfl kI64 (.tmp 5) (.tmp 6) 25 3 rfl (.int .i64 0) 8 Try.underlying25 info3 rfl (by decide) (ok := fun b => w.heap.size ≤ b) (okp := fun b => w.heap.size + 1 ≤ b) (lo := w.heap.size) (v := .slice (some ⟨w.heap.size, 0, none⟩) 0 0) (xs := []) (ys := xs) rfl (Own.empty 3 kI64 w _ rfl) (A := some ad) (m := xs.length) (c := c) rfl ?c1 ?c2 ?c3 ?c4 ?c5 ?_))
    case c1 => exact Kn.C_free (d := kI64) (ok := ok) (Kn.C_below H.out.2.2.2 ((Below.refl _ _).alloc (Nat.le_refl _) _))
    case c2 => exact fun b hb _ => ⟨by omega, by simp [Value.ownBlock]; omega⟩
    case c3 => exact fun b hb => by simp at hb; omega
    case c4 => simp
    case c5 => simpa using H.out.2.2.1
    intro v1 w1 hO hg _
    have HO := Aside.mk hO
    have HB := Aside.mk (((Below.refl w.heap.size w).alloc (Nat.le_refl _) _).grown hg (by simp) (fun k hk => by simp [Value.ownBlock] at hk; omega))
    clear hO hg
    go_wp2
    go_ret
    exact ⟨_, rfl, HO.out, HB.out⟩

end Go.Proofs.Ytmeeldcgmfplnaa
