/-
  Contracts of the session package's small functions.
-/
import Derived.Test.YtmeeldcgmfplnaaProg
import Derived.Test.YtmeeldcgmfplnaaLaws
set_option linter.unusedVariables false
set_option linter.unusedSimpArgs false
namespace Go.Proofs.Ytmeeldcgmfplnaa
open Go.RowKit
attribute [local go_sem] setRow_setCell_same setRow_setCell_other setRow_cell_same setRow_cell_other setRow_frozen setRow_shape

theorem info5 : (Try.prog.info? 5).map (fun i => (i.zero, i.size, i.bytes)) = some (some (.int .u8 0), 1, 1) := by kernel_rfl
theorem info3 : (Try.prog.info? 3).map (fun i => (i.zero, i.size, i.bytes)) = some (some (.int .i64 0), 1, 8) := by kernel_rfl
theorem info30 : (Try.prog.info? 30).map (fun i => (i.zero, i.size, i.bytes)) = some (some (.agg #[.string ⟨#[]⟩, .slice none 0 0, .int .i64 0, .bool false, .int .i64 0]), 5, 64) := by kernel_rfl

/-- The cells and marks of what was there. -/
theorem bcell {W w1 : World} (hb : Below W.heap.size W w1) : (∀ b o, b < W.heap.size → w1.cell? ⟨b, o, none⟩ = W.cell? ⟨b, o, none⟩) ∧ (∀ b o, b < W.heap.size → w1.frozen? ⟨b, o, none⟩ = W.frozen? ⟨b, o, none⟩) :=
  ⟨fun b o h => hb.cell (p := ⟨b, o, none⟩) h, fun b o h => hb.frozen (p := ⟨b, o, none⟩) h⟩
theorem below_of_grown_none {w w1 : World} (h : w.grownBy w1 none) : Below w.heap.size w w1 := ⟨h.os, h.tape, h.output, h.size, fun k hk => h.block k hk (by simp)⟩

/-- What ownMessage leaves: the message, its payload in new memory. -/
def Post28 (m : Msg) (w : World) (e : Ending) (w' : World) : Prop :=
  ∃ A c, e = .returned (.agg #[.string m.t, .slice A m.p.length c, .int .i64 m.q, .bool m.r, .int .i64 m.u]) ∧ Sl 1 kU8 (fun b => w.heap.size ≤ b) w' A c m.p ∧ Below w.heap.size w w'

set_option maxHeartbeats 400000 in
theorem ownMessage_any (m : Msg) (A : Option Addr) (c : Nat) (ok : Nat → Prop) (w : World) (h : Sl 1 kU8 ok w A c m.p) :
    Calls Try.prog 28 #[.agg #[.string m.t, .slice A m.p.length c, .int .i64 m.q, .bool m.r, .int .i64 m.u]] w (Post28 m w) := by
  obtain ⟨hl, hc, hb, hC⟩ := h
  have HC := Aside.mk hC
  have HL := Aside.mk hb
  clear hC hb hl hc
  go_enter Try.func28, Try.ntmps28
  go_wp2_with (at_builtin; go_must (refine wpList_append_Own (P := Try.prog) _ rfl kU8 (.const (.slice none 0 0)) (.tmp 4) 28 5 rfl (.int .u8 0) 1 Try.underlying28 info5 rfl Nat.one_pos (ok := fun b => w.heap.size + 2 ≤ b) (okp := fun b => w.heap.size + 2 ≤ b) (lo := w.heap.size + 2) (v := .slice none 0 0) (xs := []) (ys := m.p) rfl (Own.nil _ _ _ _ _) (A := A) (m := m.p.length) (c := c) rfl ?c1 ?c2 ?c3 ?c4 ?c5 ?_))
  case c1 => exact Kn.Cf_scalar _ (Kn.C_below HC.out (((Below.refl _ _).alloc (Nat.le_refl _) _).alloc (by simp) _))
  case c2 => exact fun b h _ => ⟨h, by simp [Value.ownBlock]⟩
  case c3 => exact fun b h => by simp at h; omega
  case c4 => simp
  case c5 => simpa using HL.out
  intro v1 w1 hO hg hat
  have hb1 := below_of_grown_none hg
  have b1 := ((Blk.new w 30 _).alloc _).below hb1 (by simp <;> omega)
  have b2 := (Blk.newAt _ (w.heap.size + 1) (by simp) 30 _).below hb1 (by simp <;> omega)
  have b1c := b1.cells; have b1f := b1.free; have b2c := b2.cells; have b2f := b2.free
  obtain ⟨A', c', rfl, hS⟩ := hO.reads (bytes := 1) HL.out
  have HS := Aside.mk hS
  have HB1 := Aside.mk hb1
  clear hO hg hat hb1 hS b1 b2
  go_wp2
  refine bodyPost_ret (v := .agg #[.string m.t, .slice A' m.p.length c', .int .i64 m.q, .bool m.r, .int .i64 m.u]) (by simp [results, Try.results28, go_sem, b2c]) rfl ⟨A', c', rfl, ?_, ?_⟩
  · refine (HS.out.move (Kp.set (Kp.set (Kp.set (Kp.set (Kp.set (Kp.set (Kp.refl _ _) ?_ _) ?_ _) ?_ _) ?_ _) ?_ _) ?_ _).2).mono (fun b hb _ => by omega) <;> (intro b hb; simp; omega)
  · have h := ((((Below.refl w.heap.size w).alloc (Nat.le_refl _) _).alloc (by simp) _).trans (HB1.out.mono (by simp; omega)))
    repeat (refine Below.setCell ?_ (by simp) _)
    exact h

/-- The packet of a message. -/
def pub (m : Msg) (id : Int) (dup : Bool) : Pkt := ⟨3, id, dup, { m with u := 0 }⟩

/-- What publish leaves. -/
def Post26 (m : Msg) (id : Int) (dup : Bool) (w : World) (e : Ending) (w' : World) : Prop :=
  ∃ A c, e = .returned (.agg (pktCells (pub m id dup) A c).toArray) ∧ Sl 1 kU8 (fun b => w.heap.size ≤ b) w' A c m.p ∧ Below w.heap.size w w'

set_option maxHeartbeats 400000 in
theorem publish_any (m : Msg) (A : Option Addr) (c : Nat) (ok : Nat → Prop) (id : Int) (dup : Bool) (w : World) (h : Sl 1 kU8 ok w A c m.p) :
    Calls Try.prog 26 #[.agg #[.string m.t, .slice A m.p.length c, .int .i64 m.q, .bool m.r, .int .i64 m.u], .int .i64 id, .bool dup] w (Post26 m id dup w) := by
  have H := Aside.mk h
  clear h
  go_enter Try.func26, Try.ntmps26
  go_wp2_with fail
  refine (ownMessage_any m A c ok _ ?hS).mono ?_
  case hS => exact H.out.below (((Below.refl _ _).alloc (Nat.le_refl _) _).alloc (by simp) _)
  rintro e w1 ⟨A', c', rfl, hS, hb1⟩
  have b1 := ((Blk.new w 30 _).alloc _).below hb1 (by simp <;> omega)
  have b2 := (Blk.newAt _ (w.heap.size + 1) (by simp) 43 _).below hb1 (by simp <;> omega)
  obtain ⟨b1c, b1f, b1s, b1h⟩ := b1.all
  obtain ⟨b2c, b2f, b2s, b2h⟩ := b2.all
  have HS := Aside.mk (hS.mono (ok' := fun b => w.heap.size + 2 ≤ b) (fun b hb _ => by simpa using hb))
  have HB1 := Aside.mk ((((Below.refl w.heap.size w).alloc (Nat.le_refl _) _).alloc (by simp) _).trans (hb1.mono (by simp; omega)))
  have B2 := Aside.mk b2
  clear hb1 hS b1 b2
  go_wp2
  refine bodyPost_ret (results_cell_row rfl _ _ (w.heap.size + 1) 43 _ (0, 0) _ rfl ((B2.out.put _).other (by omega) _) Try.underlying43 rfl (by kernel_rfl)) rfl ⟨A', c', rfl, ?_, ?_⟩
  · exact (HS.out.move (Kp.put (Kp.put (Kp.refl _ _) (fun b hb => by omega) _) (fun b hb => by omega) _).2).mono (fun b hb _ => by omega)
  · exact below_put (below_put HB1.out (by omega) _) (by omega) _
end Go.Proofs.Ytmeeldcgmfplnaa
