/-
  Contract: session.Take.
-/
import Derived.Test.YtmeeldcgmfplnaaW23
set_option linter.unusedVariables false
set_option linter.unusedSimpArgs false
namespace Go.Proofs.Ytmeeldcgmfplnaa
open Go.RowKit
attribute [local go_sem] setRow_setCell_same setRow_setCell_other setRow_cell_same setRow_cell_other setRow_frozen setRow_shape
attribute [local go_sem ↓] Go.wp_at_zero Go.wp_at_succ

def placeT (xs : List Int) (id : Int) : Nat := match placeG xs id with
  | some i => i
  | none => xs.length
theorem placeT_le (xs : List Int) (id : Int) : placeT xs id ≤ xs.length := by
  unfold placeT
  cases h : placeG xs id with
  | none => exact Nat.le_refl _
  | some i => exact Nat.le_of_lt (findIdx_lt h)
def tookS (s : Ses) (id : Int) : Ses := { s with ids := insI s.ids (placeT s.ids id) id }
/-- What Take makes of a session. -/
def takeD (s : Ses) (id : Int) : Ses × Bool × Bool :=
  if id < 1 ∨ 65535 < id then (s, false, false)
  else if s.ids.contains id = true then (s, false, false)
  else if 64 ≤ s.ids.length then (s, false, true)
  else (tookS s id, true, false)
def Post21 (r : Ses × Bool × Bool) (w : World) (e : Ending) (w' : World) : Prop :=
  ∃ vs, e = .returned (.tuple #[vs, .bool r.2.1, .bool r.2.2]) ∧ IsSesIn (fun b => w.heap.size ≤ b) w' vs r.1 ∧ Below w.heap.size w w'

set_option maxRecDepth 100000 in
set_option maxHeartbeats 4000000 in
theorem take_low (s : Ses) (A1 : Option Addr) (c1 : Nat) (A2 : Option Addr) (c2 : Nat) (A3 : Option Addr) (c3 : Nat) (A4 : Option Addr) (c4 : Nat) (id : Int) (ok : Nat → Prop) (w : World)
    (h : RdSes ok w s A1 c1 A2 c2 A3 c3 A4 c4) (hl5 : s.flight.length ≤ 1000) (hi : id < 1) :
    Calls Try.prog 21 #[.agg (sesCells s A1 c1 A2 c2 A3 c3 A4 c4), .int .i64 id] w (Post21 ((s, false, false)) w) := by
  have hl1 := h.subs.2.2.1; have hl2 := h.queue.2.2.1; have hl3 := h.flight.2.2.1; have hl4 := h.ids.2.2.1
  have H := Aside.mk h
  clear h
  simp only [sesCells]
  go_enter Try.func21, Try.ntmps21
  go_upto_region 1 with fail
  go_cut [] (fun wx => ∃ A1' c1' A2' c2' A3' c3' A4' c4', R20 s id w wx A1' c1' A2' c2' A3' c3' A4' c4')
  case first =>
    go_wp2_with fail
    refine (own_sep s A1 c1 A2 c2 A3 c3 A4 c4 ok _ ?hS).mono ?_
    case hS => exact H.out.below (by repeat (first | exact Below.refl _ _ | refine Below.drew ?_ | (refine Below.alloc ?_ (by simp <;> omega) _)))
    rintro e w1 ⟨A1', c1', A2', c2', A3', c3', A4', c4', rfl, hO, hSp, hb1⟩
    have d0 := (((Blk.new w 27 (sesCells s A1 c1 A2 c2 A3 c3 A4 c4)).alloc (.cells #[.int .i64 id] 3)).alloc (.cells zeroSes 27)).below hb1 (by simp <;> omega)
    have d1 := ((Blk.newAt (w.alloc (.cells (sesCells s A1 c1 A2 c2 A3 c3 A4 c4) 27)) (w.heap.size + 1) (by simp) 3 #[.int .i64 id]).alloc (.cells zeroSes 27)).below hb1 (by simp <;> omega)
    have d2 := (Blk.newAt ((w.alloc (.cells (sesCells s A1 c1 A2 c2 A3 c3 A4 c4) 27)).alloc (.cells #[.int .i64 id] 3)) (w.heap.size + 2) (by simp) 27 zeroSes).below hb1 (by simp <;> omega)
    have hB1 : Below w.heap.size w w1 := Below.trans (by repeat (first | exact Below.refl _ _ | refine Below.drew ?_ | (refine Below.alloc ?_ (by simp <;> omega) _))) (hb1.mono (by simp; omega))
    have HR := Aside.mk (show R20 s id w (w1.setRow w.heap.size (sesCells s A1' c1' A2' c2' A3' c3' A4' c4')) A1' c1' A2' c2' A3' c3' A4' c4' from
      ⟨d0.put _, d1.other (by omega) _, d2.other (by omega) _, hO.kp ((Kp.refl _ _).put (fun b hb => by simp at hb; omega) _) (by simp), hSp.kp ((Kp.refl _ _).put (fun b hb => by simp at hb; omega) _) (by simp), below_put hB1 (Nat.le_refl _) _⟩)
    obtain ⟨d0c, d0f, d0s, d0h⟩ := d0.all
    clear hO hSp hb1 d0 d1 d2 hB1
    go_wp2_with fail
    go_meet
    exact ⟨A1', c1', A2', c2', A3', c3', A4', c4', HR.out⟩
  case rest =>
    obtain ⟨A1', c1', A2', c2', A3', c3', A4', c4', hR⟩ := hcut
    obtain ⟨d0c, d0f, d0s, d0h⟩ := hR.b1.all
    obtain ⟨d1c, d1f, d1s, d1h⟩ := hR.b2.all
    obtain ⟨d2c, d2f, d2s, d2h⟩ := hR.b3.all
    have hsz : w.heap.size + 3 ≤ wc.heap.size := by have := hR.b3.lt; omega
    have HR := Aside.mk hR
    have HRD := Aside.mk (hR.own.rd hl1 hl2 hl3 hl4)
    clear hR
    go_wp2_with fail
    refine bodyPost_ret (res_ctt rfl _ _ (w.heap.size + 2) 27 (sesCells s A1' c1' A2' c2' A3' c3' A4' c4') _ rfl (HR.out.b3.put _) Try.underlying27 rfl (by kernel_rfl)) rfl ?_
    refine ⟨_, rfl, ⟨A1', c1', A2', c2', A3', c3', A4', c4', rfl, ?_⟩, ?_⟩
    · exact (HRD.out.move (Kp.put (Kp.refl _ _) (fun b hb => by omega) _).2).mono (fun b hb _ => by omega)
    · exact below_put HR.out.below (by omega) _

set_option maxRecDepth 100000 in
set_option maxHeartbeats 4000000 in
theorem take_high (s : Ses) (A1 : Option Addr) (c1 : Nat) (A2 : Option Addr) (c2 : Nat) (A3 : Option Addr) (c3 : Nat) (A4 : Option Addr) (c4 : Nat) (id : Int) (ok : Nat → Prop) (w : World)
    (h : RdSes ok w s A1 c1 A2 c2 A3 c3 A4 c4) (hl5 : s.flight.length ≤ 1000) (hi1 : 1 ≤ id) (hi : 65535 < id) :
    Calls Try.prog 21 #[.agg (sesCells s A1 c1 A2 c2 A3 c3 A4 c4), .int .i64 id] w (Post21 ((s, false, false)) w) := by
  have hl1 := h.subs.2.2.1; have hl2 := h.queue.2.2.1; have hl3 := h.flight.2.2.1; have hl4 := h.ids.2.2.1
  have H := Aside.mk h
  clear h
  simp only [sesCells]
  go_enter Try.func21, Try.ntmps21
  go_upto_region 1 with fail
  go_cut [] (fun wx => ∃ A1' c1' A2' c2' A3' c3' A4' c4', R20 s id w wx A1' c1' A2' c2' A3' c3' A4' c4')
  case first =>
    go_wp2_with fail
    refine (own_sep s A1 c1 A2 c2 A3 c3 A4 c4 ok _ ?hS).mono ?_
    case hS => exact H.out.below (by repeat (first | exact Below.refl _ _ | refine Below.drew ?_ | (refine Below.alloc ?_ (by simp <;> omega) _)))
    rintro e w1 ⟨A1', c1', A2', c2', A3', c3', A4', c4', rfl, hO, hSp, hb1⟩
    have d0 := (((Blk.new w 27 (sesCells s A1 c1 A2 c2 A3 c3 A4 c4)).alloc (.cells #[.int .i64 id] 3)).alloc (.cells zeroSes 27)).below hb1 (by simp <;> omega)
    have d1 := ((Blk.newAt (w.alloc (.cells (sesCells s A1 c1 A2 c2 A3 c3 A4 c4) 27)) (w.heap.size + 1) (by simp) 3 #[.int .i64 id]).alloc (.cells zeroSes 27)).below hb1 (by simp <;> omega)
    have d2 := (Blk.newAt ((w.alloc (.cells (sesCells s A1 c1 A2 c2 A3 c3 A4 c4) 27)).alloc (.cells #[.int .i64 id] 3)) (w.heap.size + 2) (by simp) 27 zeroSes).below hb1 (by simp <;> omega)
    have hB1 : Below w.heap.size w w1 := Below.trans (by repeat (first | exact Below.refl _ _ | refine Below.drew ?_ | (refine Below.alloc ?_ (by simp <;> omega) _))) (hb1.mono (by simp; omega))
    have HR := Aside.mk (show R20 s id w (w1.setRow w.heap.size (sesCells s A1' c1' A2' c2' A3' c3' A4' c4')) A1' c1' A2' c2' A3' c3' A4' c4' from
      ⟨d0.put _, d1.other (by omega) _, d2.other (by omega) _, hO.kp ((Kp.refl _ _).put (fun b hb => by simp at hb; omega) _) (by simp), hSp.kp ((Kp.refl _ _).put (fun b hb => by simp at hb; omega) _) (by simp), below_put hB1 (Nat.le_refl _) _⟩)
    obtain ⟨d0c, d0f, d0s, d0h⟩ := d0.all
    clear hO hSp hb1 d0 d1 d2 hB1
    go_wp2_with fail
    go_meet
    exact ⟨A1', c1', A2', c2', A3', c3', A4', c4', HR.out⟩
  case rest =>
    obtain ⟨A1', c1', A2', c2', A3', c3', A4', c4', hR⟩ := hcut
    obtain ⟨d0c, d0f, d0s, d0h⟩ := hR.b1.all
    obtain ⟨d1c, d1f, d1s, d1h⟩ := hR.b2.all
    obtain ⟨d2c, d2f, d2s, d2h⟩ := hR.b3.all
    have hsz : w.heap.size + 3 ≤ wc.heap.size := by have := hR.b3.lt; omega
    have HR := Aside.mk hR
    have HRD := Aside.mk (hR.own.rd hl1 hl2 hl3 hl4)
    clear hR
    go_wp2_with fail
    refine bodyPost_ret (res_ctt rfl _ _ (w.heap.size + 2) 27 (sesCells s A1' c1' A2' c2' A3' c3' A4' c4') _ rfl (HR.out.b3.put _) Try.underlying27 rfl (by kernel_rfl)) rfl ?_
    refine ⟨_, rfl, ⟨A1', c1', A2', c2', A3', c3', A4', c4', rfl, ?_⟩, ?_⟩
    · exact (HRD.out.move (Kp.put (Kp.refl _ _) (fun b hb => by omega) _).2).mono (fun b hb _ => by omega)
    · exact below_put HR.out.below (by omega) _

set_option maxRecDepth 100000 in
set_option maxHeartbeats 4000000 in
theorem take_has (s : Ses) (A1 : Option Addr) (c1 : Nat) (A2 : Option Addr) (c2 : Nat) (A3 : Option Addr) (c3 : Nat) (A4 : Option Addr) (c4 : Nat) (id : Int) (ok : Nat → Prop) (w : World)
    (h : RdSes ok w s A1 c1 A2 c2 A3 c3 A4 c4) (hl5 : s.flight.length ≤ 1000) (hi1 : 1 ≤ id) (hi2 : id ≤ 65535) (hc : s.ids.contains id = true) :
    Calls Try.prog 21 #[.agg (sesCells s A1 c1 A2 c2 A3 c3 A4 c4), .int .i64 id] w (Post21 ((s, false, false)) w) := by
  have hl1 := h.subs.2.2.1; have hl2 := h.queue.2.2.1; have hl3 := h.flight.2.2.1; have hl4 := h.ids.2.2.1
  have H := Aside.mk h
  clear h
  simp only [sesCells]
  go_enter Try.func21, Try.ntmps21
  go_upto_region 1 with fail
  go_cut [] (fun wx => ∃ A1' c1' A2' c2' A3' c3' A4' c4', R20 s id w wx A1' c1' A2' c2' A3' c3' A4' c4')
  case first =>
    go_wp2_with fail
    refine (own_sep s A1 c1 A2 c2 A3 c3 A4 c4 ok _ ?hS).mono ?_
    case hS => exact H.out.below (by repeat (first | exact Below.refl _ _ | refine Below.drew ?_ | (refine Below.alloc ?_ (by simp <;> omega) _)))
    rintro e w1 ⟨A1', c1', A2', c2', A3', c3', A4', c4', rfl, hO, hSp, hb1⟩
    have d0 := (((Blk.new w 27 (sesCells s A1 c1 A2 c2 A3 c3 A4 c4)).alloc (.cells #[.int .i64 id] 3)).alloc (.cells zeroSes 27)).below hb1 (by simp <;> omega)
    have d1 := ((Blk.newAt (w.alloc (.cells (sesCells s A1 c1 A2 c2 A3 c3 A4 c4) 27)) (w.heap.size + 1) (by simp) 3 #[.int .i64 id]).alloc (.cells zeroSes 27)).below hb1 (by simp <;> omega)
    have d2 := (Blk.newAt ((w.alloc (.cells (sesCells s A1 c1 A2 c2 A3 c3 A4 c4) 27)).alloc (.cells #[.int .i64 id] 3)) (w.heap.size + 2) (by simp) 27 zeroSes).below hb1 (by simp <;> omega)
    have hB1 : Below w.heap.size w w1 := Below.trans (by repeat (first | exact Below.refl _ _ | refine Below.drew ?_ | (refine Below.alloc ?_ (by simp <;> omega) _))) (hb1.mono (by simp; omega))
    have HR := Aside.mk (show R20 s id w (w1.setRow w.heap.size (sesCells s A1' c1' A2' c2' A3' c3' A4' c4')) A1' c1' A2' c2' A3' c3' A4' c4' from
      ⟨d0.put _, d1.other (by omega) _, d2.other (by omega) _, hO.kp ((Kp.refl _ _).put (fun b hb => by simp at hb; omega) _) (by simp), hSp.kp ((Kp.refl _ _).put (fun b hb => by simp at hb; omega) _) (by simp), below_put hB1 (Nat.le_refl _) _⟩)
    obtain ⟨d0c, d0f, d0s, d0h⟩ := d0.all
    clear hO hSp hb1 d0 d1 d2 hB1
    go_wp2_with fail
    go_meet
    exact ⟨A1', c1', A2', c2', A3', c3', A4', c4', HR.out⟩
  case rest =>
    obtain ⟨A1', c1', A2', c2', A3', c3', A4', c4', hR⟩ := hcut
    obtain ⟨d0c, d0f, d0s, d0h⟩ := hR.b1.all
    obtain ⟨d1c, d1f, d1s, d1h⟩ := hR.b2.all
    obtain ⟨d2c, d2f, d2s, d2h⟩ := hR.b3.all
    have hsz : w.heap.size + 3 ≤ wc.heap.size := by have := hR.b3.lt; omega
    have HR := Aside.mk hR
    have HRD := Aside.mk (hR.own.rd hl1 hl2 hl3 hl4)
    clear hR
    have HC := Aside.mk hc
    clear hc
    go_wp2_with fail
    refine (contains_any s.ids A4' c4' id _ _ wc HR.out.own.ids).mono ?_
    rintro e w1 ⟨rfl, hw⟩
    have hw := hw.symm
    subst hw
    rw [HC.out]
    go_wp2_with fail
    refine bodyPost_ret (res_ctt rfl _ _ (w.heap.size + 2) 27 (sesCells s A1' c1' A2' c2' A3' c3' A4' c4') _ rfl (HR.out.b3.put _) Try.underlying27 rfl (by kernel_rfl)) rfl ?_
    refine ⟨_, rfl, ⟨A1', c1', A2', c2', A3', c3', A4', c4', rfl, ?_⟩, ?_⟩
    · exact (HRD.out.move (Kp.put (Kp.refl _ _) (fun b hb => by omega) _).2).mono (fun b hb _ => by omega)
    · exact below_put HR.out.below (by omega) _

set_option maxRecDepth 100000 in
set_option maxHeartbeats 4000000 in
theorem take_full (s : Ses) (A1 : Option Addr) (c1 : Nat) (A2 : Option Addr) (c2 : Nat) (A3 : Option Addr) (c3 : Nat) (A4 : Option Addr) (c4 : Nat) (id : Int) (ok : Nat → Prop) (w : World)
    (h : RdSes ok w s A1 c1 A2 c2 A3 c3 A4 c4) (hl5 : s.flight.length ≤ 1000) (hi1 : 1 ≤ id) (hi2 : id ≤ 65535) (hc : s.ids.contains id = false) (hn : 64 ≤ s.ids.length) :
    Calls Try.prog 21 #[.agg (sesCells s A1 c1 A2 c2 A3 c3 A4 c4), .int .i64 id] w (Post21 ((s, false, true)) w) := by
  have hl1 := h.subs.2.2.1; have hl2 := h.queue.2.2.1; have hl3 := h.flight.2.2.1; have hl4 := h.ids.2.2.1
  have H := Aside.mk h
  clear h
  simp only [sesCells]
  go_enter Try.func21, Try.ntmps21
  go_upto_region 1 with fail
  go_cut [] (fun wx => ∃ A1' c1' A2' c2' A3' c3' A4' c4', R20 s id w wx A1' c1' A2' c2' A3' c3' A4' c4')
  case first =>
    go_wp2_with fail
    refine (own_sep s A1 c1 A2 c2 A3 c3 A4 c4 ok _ ?hS).mono ?_
    case hS => exact H.out.below (by repeat (first | exact Below.refl _ _ | refine Below.drew ?_ | (refine Below.alloc ?_ (by simp <;> omega) _)))
    rintro e w1 ⟨A1', c1', A2', c2', A3', c3', A4', c4', rfl, hO, hSp, hb1⟩
    have d0 := (((Blk.new w 27 (sesCells s A1 c1 A2 c2 A3 c3 A4 c4)).alloc (.cells #[.int .i64 id] 3)).alloc (.cells zeroSes 27)).below hb1 (by simp <;> omega)
    have d1 := ((Blk.newAt (w.alloc (.cells (sesCells s A1 c1 A2 c2 A3 c3 A4 c4) 27)) (w.heap.size + 1) (by simp) 3 #[.int .i64 id]).alloc (.cells zeroSes 27)).below hb1 (by simp <;> omega)
    have d2 := (Blk.newAt ((w.alloc (.cells (sesCells s A1 c1 A2 c2 A3 c3 A4 c4) 27)).alloc (.cells #[.int .i64 id] 3)) (w.heap.size + 2) (by simp) 27 zeroSes).below hb1 (by simp <;> omega)
    have hB1 : Below w.heap.size w w1 := Below.trans (by repeat (first | exact Below.refl _ _ | refine Below.drew ?_ | (refine Below.alloc ?_ (by simp <;> omega) _))) (hb1.mono (by simp; omega))
    have HR := Aside.mk (show R20 s id w (w1.setRow w.heap.size (sesCells s A1' c1' A2' c2' A3' c3' A4' c4')) A1' c1' A2' c2' A3' c3' A4' c4' from
      ⟨d0.put _, d1.other (by omega) _, d2.other (by omega) _, hO.kp ((Kp.refl _ _).put (fun b hb => by simp at hb; omega) _) (by simp), hSp.kp ((Kp.refl _ _).put (fun b hb => by simp at hb; omega) _) (by simp), below_put hB1 (Nat.le_refl _) _⟩)
    obtain ⟨d0c, d0f, d0s, d0h⟩ := d0.all
    clear hO hSp hb1 d0 d1 d2 hB1
    go_wp2_with fail
    go_meet
    exact ⟨A1', c1', A2', c2', A3', c3', A4', c4', HR.out⟩
  case rest =>
    obtain ⟨A1', c1', A2', c2', A3', c3', A4', c4', hR⟩ := hcut
    obtain ⟨d0c, d0f, d0s, d0h⟩ := hR.b1.all
    obtain ⟨d1c, d1f, d1s, d1h⟩ := hR.b2.all
    obtain ⟨d2c, d2f, d2s, d2h⟩ := hR.b3.all
    have hsz : w.heap.size + 3 ≤ wc.heap.size := by have := hR.b3.lt; omega
    have HR := Aside.mk hR
    have HRD := Aside.mk (hR.own.rd hl1 hl2 hl3 hl4)
    clear hR
    have hn' : (64 : Int) ≤ (s.ids.length : Int) := by omega
    have HNN := Aside.mk hn
    clear hn
    have HC := Aside.mk hc
    clear hc
    go_wp2_with fail
    refine (contains_any s.ids A4' c4' id _ _ wc HR.out.own.ids).mono ?_
    rintro e w1 ⟨rfl, hw⟩
    have hw := hw.symm
    subst hw
    rw [HC.out]
    go_wp2_with fail
    refine bodyPost_ret (res_ctt rfl _ _ (w.heap.size + 2) 27 (sesCells s A1' c1' A2' c2' A3' c3' A4' c4') _ rfl (HR.out.b3.put _) Try.underlying27 rfl (by kernel_rfl)) rfl ?_
    refine ⟨_, rfl, ⟨A1', c1', A2', c2', A3', c3', A4', c4', rfl, ?_⟩, ?_⟩
    · exact (HRD.out.move (Kp.put (Kp.refl _ _) (fun b hb => by omega) _).2).mono (fun b hb _ => by omega)
    · exact below_put HR.out.below (by omega) _

set_option maxRecDepth 100000 in
set_option maxHeartbeats 4000000 in
theorem take_new_some (s : Ses) (A1 : Option Addr) (c1 : Nat) (A2 : Option Addr) (c2 : Nat) (A3 : Option Addr) (c3 : Nat) (A4 : Option Addr) (c4 : Nat) (i : Nat) (id : Int) (ok : Nat → Prop) (w : World)
    (h : RdSes ok w s A1 c1 A2 c2 A3 c3 A4 c4) (hl5 : s.flight.length ≤ 1000) (hi1 : 1 ≤ id) (hi2 : id ≤ 65535) (hc : s.ids.contains id = false) (hn : s.ids.length < 64) (hp : placeG s.ids id = some i) :
    Calls Try.prog 21 #[.agg (sesCells s A1 c1 A2 c2 A3 c3 A4 c4), .int .i64 id] w (Post21 ((tookS s id, true, false)) w) := by
  have hl1 := h.subs.2.2.1; have hl2 := h.queue.2.2.1; have hl3 := h.flight.2.2.1; have hl4 := h.ids.2.2.1
  have H := Aside.mk h
  clear h
  simp only [sesCells]
  go_enter Try.func21, Try.ntmps21
  go_upto_region 1 with fail
  go_cut [] (fun wx => ∃ A1' c1' A2' c2' A3' c3' A4' c4', R20 s id w wx A1' c1' A2' c2' A3' c3' A4' c4')
  case first =>
    go_wp2_with fail
    refine (own_sep s A1 c1 A2 c2 A3 c3 A4 c4 ok _ ?hS).mono ?_
    case hS => exact H.out.below (by repeat (first | exact Below.refl _ _ | refine Below.drew ?_ | (refine Below.alloc ?_ (by simp <;> omega) _)))
    rintro e w1 ⟨A1', c1', A2', c2', A3', c3', A4', c4', rfl, hO, hSp, hb1⟩
    have d0 := (((Blk.new w 27 (sesCells s A1 c1 A2 c2 A3 c3 A4 c4)).alloc (.cells #[.int .i64 id] 3)).alloc (.cells zeroSes 27)).below hb1 (by simp <;> omega)
    have d1 := ((Blk.newAt (w.alloc (.cells (sesCells s A1 c1 A2 c2 A3 c3 A4 c4) 27)) (w.heap.size + 1) (by simp) 3 #[.int .i64 id]).alloc (.cells zeroSes 27)).below hb1 (by simp <;> omega)
    have d2 := (Blk.newAt ((w.alloc (.cells (sesCells s A1 c1 A2 c2 A3 c3 A4 c4) 27)).alloc (.cells #[.int .i64 id] 3)) (w.heap.size + 2) (by simp) 27 zeroSes).below hb1 (by simp <;> omega)
    have hB1 : Below w.heap.size w w1 := Below.trans (by repeat (first | exact Below.refl _ _ | refine Below.drew ?_ | (refine Below.alloc ?_ (by simp <;> omega) _))) (hb1.mono (by simp; omega))
    have HR := Aside.mk (show R20 s id w (w1.setRow w.heap.size (sesCells s A1' c1' A2' c2' A3' c3' A4' c4')) A1' c1' A2' c2' A3' c3' A4' c4' from
      ⟨d0.put _, d1.other (by omega) _, d2.other (by omega) _, hO.kp ((Kp.refl _ _).put (fun b hb => by simp at hb; omega) _) (by simp), hSp.kp ((Kp.refl _ _).put (fun b hb => by simp at hb; omega) _) (by simp), below_put hB1 (Nat.le_refl _) _⟩)
    obtain ⟨d0c, d0f, d0s, d0h⟩ := d0.all
    clear hO hSp hb1 d0 d1 d2 hB1
    go_wp2_with fail
    go_meet
    exact ⟨A1', c1', A2', c2', A3', c3', A4', c4', HR.out⟩
  case rest =>
    obtain ⟨A1', c1', A2', c2', A3', c3', A4', c4', hR⟩ := hcut
    obtain ⟨d0c, d0f, d0s, d0h⟩ := hR.b1.all
    obtain ⟨d1c, d1f, d1s, d1h⟩ := hR.b2.all
    obtain ⟨d2c, d2f, d2s, d2h⟩ := hR.b3.all
    have hsz : w.heap.size + 3 ≤ wc.heap.size := by have := hR.b3.lt; omega
    have HR := Aside.mk hR
    have HRD := Aside.mk (hR.own.rd hl1 hl2 hl3 hl4)
    clear hR
    have hn' : (s.ids.length : Int) < 64 := by omega
    have HNN := Aside.mk hn
    have hpt := Aside.mk (show placeT s.ids id = i by unfold placeT; rw [hp])
    have HP := Aside.mk hp
    have hil0 := findIdx_lt hp
    clear hn hp
    have HC := Aside.mk hc
    clear hc
    go_wp2_with fail
    refine (contains_any s.ids A4' c4' id _ _ wc HR.out.own.ids).mono ?_
    rintro e w1 ⟨rfl, hw⟩
    have hw := hw.symm
    subst hw
    rw [HC.out]
    go_wp2_with fail
    refine (indexG_any s.ids A4' c4' id (w.heap.size + 1) _ _ wc HR.out.own.ids (d1c 0)).mono ?_
    rintro e w1 ⟨rfl, hb1⟩
    rw [HP.out]
    simp only [placeI]
    rw [← hpt.out]
    have hge0 : (0 : Int) ≤ ((placeT s.ids id : Nat) : Int) := by omega
    have HW := Aside.mk hb1
    have e0 := HR.out.b1.belowAll hb1
    have e1 := HR.out.b2.belowAll hb1
    have e2 := HR.out.b3.belowAll hb1
    have hlt2 : w.heap.size + 2 < w1.heap.size := e2.lt
    have hlt1 : w.heap.size + 1 < w1.heap.size := by omega
    have hlt0 : w.heap.size < w1.heap.size := by omega
    have hne2 : ¬ w.heap.size + 2 = w1.heap.size := by omega
    have hne1 : ¬ w.heap.size + 1 = w1.heap.size := by omega
    have hne0 : ¬ w.heap.size = w1.heap.size := by omega
    have E0 := Aside.mk e0; have E2 := Aside.mk e2
    have HO := Aside.mk (HR.out.own.ids.below hb1)
    obtain ⟨e0c, e0f, _, _⟩ := e0.all
    obtain ⟨e1c, e1f, _, _⟩ := e1.all
    clear hb1 e0 e1 e2 d0c d0f d0s d0h d1c d1f d1s d1h d2c d2f d2s d2h
    go_wp2_with fail
    have hrow := fun b hb => HO.out.ge b hb
    have hv2 := fun b hb => HR.out.own.queue.ge b hb
    have hv3 := fun b hb => HR.out.own.flight.ge b hb
    have hsw := HW.out.size
    refine (insert_any s.ids A4' c4' (placeT s.ids id) id w1.heap.size (fun b => (w.heap.size + 3 ≤ b ∧ some b ≠ (Value.slice A2' s.queue.length c2').ownBlock) ∧ some b ≠ (Value.slice A3' s.flight.length c3').ownBlock) (w.heap.size + 3) _ (HO.out.below ((Below.refl _ _).alloc (Nat.le_refl _) _)) (placeT_le _ _) (by have := HNN.out; omega) (Blk.new w1 3 #[.int .i64 id]) (fun e => by have := (hrow _ e.symm).2; omega) (by simp; omega) ?hfr).mono ?_
    case hfr => simp; exact ⟨⟨by omega, fun e => by have := (hv2 _ e.symm).2; omega⟩, fun e => by have := (hv3 _ e.symm).2; omega⟩
    rintro e w2 ⟨A5, c5, rfl, hO2, hgr, hat⟩
    have k0 := (E0.out.alloc (.cells #[.int .i64 id] 3)).grown hgr (fun e => by have := (hrow _ e.symm).1; omega)
    have k2 := (E2.out.alloc (.cells #[.int .i64 id] 3)).grown hgr (fun e => by have := (hrow _ e.symm).1; omega)
    have hil := insI_len s.ids (placeT s.ids id) id (placeT_le _ _)
    obtain ⟨B1, f1, x1, hS1⟩ := HR.out.sep.subs.reads (bytes := 24) hl1
    obtain ⟨B2, f2, x2, hS2⟩ := HR.out.sep.queue.reads (bytes := 64) hl2
    obtain ⟨B3, f3, x3, hS3⟩ := HR.out.sep.flight.reads (bytes := 88) hl3
    obtain ⟨B4, f4, x4, hS4⟩ := hO2.reads (bytes := 8) (by have := HNN.out; omega)
    injection x1 with x1 _ y1; injection x2 with x2 _ y2; injection x3 with x3 _ y3; injection x4 with x4 _ y4
    subst x1 y1 x2 y2 x3 y3 x4 y4
    have KK : ∀ (a b : Array Value), Kp (fun b => w.heap.size + 3 ≤ b ∧ some b ≠ (Value.slice A4' s.ids.length c4').ownBlock) wc ((w2.setRow (w.heap.size + 2) a).setRow w.heap.size b) := fun a b =>
      ((((((Kp.refl _ _).below HW.out).alloc (.cells #[.int .i64 id] 3)).grown hgr (fun b hb => hb.2)).put (fun b hb => by have := hb.1; omega) _).put (fun b hb => by have := hb.1; omega) _)
    have HRD2 : Aside (∀ (a b : Array Value), RdSes (fun b => w.heap.size + 3 ≤ b) ((w2.setRow (w.heap.size + 2) a).setRow w.heap.size b) (tookS s id) A1' c1' A2' c2' A3' c3' A5 c5) := ⟨fun a b => ⟨(hS1.kp (KK a b)).mono (fun b hb _ => hb.1), (hS2.kp (KK a b)).mono (fun b hb _ => hb.1), (hS3.kp (KK a b)).mono (fun b hb _ => hb.1),
      (hS4.kp (((Kp.refl _ _).put (fun b hb => by have := hb.1.1; omega) _).put (fun b hb => by have := hb.1.1; omega) _)).mono (fun b hb _ => hb.1.1)⟩⟩
    have HBB := Aside.mk (((below_all HR.out.below HR.out.below.size HW.out).alloc (by omega) (.cells #[.int .i64 id] 3)).grown hgr (by simp; omega) (fun b hb => by have := (hrow b hb).1; omega))
    have hq2 : ¬ w.heap.size + 1 + 1 = w.heap.size := by omega
    obtain ⟨k0c, k0f, k0s, k0h⟩ := k0.all
    obtain ⟨k2c, k2f, k2s, k2h⟩ := k2.all
    have K2 := Aside.mk k2
    clear hO2 hgr hat k0 k2 hS1 hS2 hS3 hS4 KK e0c e0f e1c e1f hrow hv2 hv3 hil
    go_wp2_with fail
    refine bodyPost_ret (res_ctt rfl _ _ (w.heap.size + 2) 27 _ _ rfl ((K2.out.put _).other (g' := w.heap.size) (by omega) _) Try.underlying27 rfl (by kernel_rfl)) rfl ?_
    refine ⟨_, rfl, ⟨A1', c1', A2', c2', A3', c3', A5, c5, rfl, ?_⟩, ?_⟩
    · exact (HRD2.out _ _).mono (fun b hb _ => by omega)
    · exact below_put (below_put HBB.out (by omega) _) (Nat.le_refl _) _

set_option maxRecDepth 100000 in
set_option maxHeartbeats 4000000 in
theorem take_new_none (s : Ses) (A1 : Option Addr) (c1 : Nat) (A2 : Option Addr) (c2 : Nat) (A3 : Option Addr) (c3 : Nat) (A4 : Option Addr) (c4 : Nat) (id : Int) (ok : Nat → Prop) (w : World)
    (h : RdSes ok w s A1 c1 A2 c2 A3 c3 A4 c4) (hl5 : s.flight.length ≤ 1000) (hi1 : 1 ≤ id) (hi2 : id ≤ 65535) (hc : s.ids.contains id = false) (hn : s.ids.length < 64) (hp : placeG s.ids id = none) :
    Calls Try.prog 21 #[.agg (sesCells s A1 c1 A2 c2 A3 c3 A4 c4), .int .i64 id] w (Post21 ((tookS s id, true, false)) w) := by
  have hl1 := h.subs.2.2.1; have hl2 := h.queue.2.2.1; have hl3 := h.flight.2.2.1; have hl4 := h.ids.2.2.1
  have H := Aside.mk h
  clear h
  simp only [sesCells]
  go_enter Try.func21, Try.ntmps21
  go_upto_region 1 with fail
  go_cut [] (fun wx => ∃ A1' c1' A2' c2' A3' c3' A4' c4', R20 s id w wx A1' c1' A2' c2' A3' c3' A4' c4')
  case first =>
    go_wp2_with fail
    refine (own_sep s A1 c1 A2 c2 A3 c3 A4 c4 ok _ ?hS).mono ?_
    case hS => exact H.out.below (by repeat (first | exact Below.refl _ _ | refine Below.drew ?_ | (refine Below.alloc ?_ (by simp <;> omega) _)))
    rintro e w1 ⟨A1', c1', A2', c2', A3', c3', A4', c4', rfl, hO, hSp, hb1⟩
    have d0 := (((Blk.new w 27 (sesCells s A1 c1 A2 c2 A3 c3 A4 c4)).alloc (.cells #[.int .i64 id] 3)).alloc (.cells zeroSes 27)).below hb1 (by simp <;> omega)
    have d1 := ((Blk.newAt (w.alloc (.cells (sesCells s A1 c1 A2 c2 A3 c3 A4 c4) 27)) (w.heap.size + 1) (by simp) 3 #[.int .i64 id]).alloc (.cells zeroSes 27)).below hb1 (by simp <;> omega)
    have d2 := (Blk.newAt ((w.alloc (.cells (sesCells s A1 c1 A2 c2 A3 c3 A4 c4) 27)).alloc (.cells #[.int .i64 id] 3)) (w.heap.size + 2) (by simp) 27 zeroSes).below hb1 (by simp <;> omega)
    have hB1 : Below w.heap.size w w1 := Below.trans (by repeat (first | exact Below.refl _ _ | refine Below.drew ?_ | (refine Below.alloc ?_ (by simp <;> omega) _))) (hb1.mono (by simp; omega))
    have HR := Aside.mk (show R20 s id w (w1.setRow w.heap.size (sesCells s A1' c1' A2' c2' A3' c3' A4' c4')) A1' c1' A2' c2' A3' c3' A4' c4' from
      ⟨d0.put _, d1.other (by omega) _, d2.other (by omega) _, hO.kp ((Kp.refl _ _).put (fun b hb => by simp at hb; omega) _) (by simp), hSp.kp ((Kp.refl _ _).put (fun b hb => by simp at hb; omega) _) (by simp), below_put hB1 (Nat.le_refl _) _⟩)
    obtain ⟨d0c, d0f, d0s, d0h⟩ := d0.all
    clear hO hSp hb1 d0 d1 d2 hB1
    go_wp2_with fail
    go_meet
    exact ⟨A1', c1', A2', c2', A3', c3', A4', c4', HR.out⟩
  case rest =>
    obtain ⟨A1', c1', A2', c2', A3', c3', A4', c4', hR⟩ := hcut
    obtain ⟨d0c, d0f, d0s, d0h⟩ := hR.b1.all
    obtain ⟨d1c, d1f, d1s, d1h⟩ := hR.b2.all
    obtain ⟨d2c, d2f, d2s, d2h⟩ := hR.b3.all
    have hsz : w.heap.size + 3 ≤ wc.heap.size := by have := hR.b3.lt; omega
    have HR := Aside.mk hR
    have HRD := Aside.mk (hR.own.rd hl1 hl2 hl3 hl4)
    clear hR
    have hn' : (s.ids.length : Int) < 64 := by omega
    have HNN := Aside.mk hn
    have hpt := Aside.mk (show placeT s.ids id = s.ids.length by unfold placeT; rw [hp])
    have HP := Aside.mk hp
    clear hn hp
    have HC := Aside.mk hc
    clear hc
    go_wp2_with fail
    refine (contains_any s.ids A4' c4' id _ _ wc HR.out.own.ids).mono ?_
    rintro e w1 ⟨rfl, hw⟩
    have hw := hw.symm
    subst hw
    rw [HC.out]
    go_wp2_with fail
    refine (indexG_any s.ids A4' c4' id (w.heap.size + 1) _ _ wc HR.out.own.ids (d1c 0)).mono ?_
    rintro e w1 ⟨rfl, hb1⟩
    rw [HP.out]
    simp only [placeI]
    have HW := Aside.mk hb1
    have e0 := HR.out.b1.belowAll hb1
    have e1 := HR.out.b2.belowAll hb1
    have e2 := HR.out.b3.belowAll hb1
    have hlt2 : w.heap.size + 2 < w1.heap.size := e2.lt
    have hlt1 : w.heap.size + 1 < w1.heap.size := by omega
    have hlt0 : w.heap.size < w1.heap.size := by omega
    have hne2 : ¬ w.heap.size + 2 = w1.heap.size := by omega
    have hne1 : ¬ w.heap.size + 1 = w1.heap.size := by omega
    have hne0 : ¬ w.heap.size = w1.heap.size := by omega
    have E0 := Aside.mk e0; have E2 := Aside.mk e2
    have HO := Aside.mk (HR.out.own.ids.below hb1)
    obtain ⟨e0c, e0f, _, _⟩ := e0.all
    obtain ⟨e1c, e1f, _, _⟩ := e1.all
    clear hb1 e0 e1 e2 d0c d0f d0s d0h d1c d1f d1s d1h d2c d2f d2s d2h
    go_wp2_with fail
    have hrow := fun b hb => HO.out.ge b hb
    have hv2 := fun b hb => HR.out.own.queue.ge b hb
    have hv3 := fun b hb => HR.out.own.flight.ge b hb
    have hsw := HW.out.size
    rw [show (Value.int .i64 ((s.ids.length : Nat) : Int)) = Value.int .i64 ((placeT s.ids id : Nat) : Int) by rw [hpt.out]]
    refine (insert_any s.ids A4' c4' (placeT s.ids id) id w1.heap.size (fun b => (w.heap.size + 3 ≤ b ∧ some b ≠ (Value.slice A2' s.queue.length c2').ownBlock) ∧ some b ≠ (Value.slice A3' s.flight.length c3').ownBlock) (w.heap.size + 3) _ (HO.out.below ((Below.refl _ _).alloc (Nat.le_refl _) _)) (placeT_le _ _) (by have := HNN.out; omega) (Blk.new w1 3 #[.int .i64 id]) (fun e => by have := (hrow _ e.symm).2; omega) (by simp; omega) ?hfr).mono ?_
    case hfr => simp; exact ⟨⟨by omega, fun e => by have := (hv2 _ e.symm).2; omega⟩, fun e => by have := (hv3 _ e.symm).2; omega⟩
    rintro e w2 ⟨A5, c5, rfl, hO2, hgr, hat⟩
    have k0 := (E0.out.alloc (.cells #[.int .i64 id] 3)).grown hgr (fun e => by have := (hrow _ e.symm).1; omega)
    have k2 := (E2.out.alloc (.cells #[.int .i64 id] 3)).grown hgr (fun e => by have := (hrow _ e.symm).1; omega)
    have hil := insI_len s.ids (placeT s.ids id) id (placeT_le _ _)
    obtain ⟨B1, f1, x1, hS1⟩ := HR.out.sep.subs.reads (bytes := 24) hl1
    obtain ⟨B2, f2, x2, hS2⟩ := HR.out.sep.queue.reads (bytes := 64) hl2
    obtain ⟨B3, f3, x3, hS3⟩ := HR.out.sep.flight.reads (bytes := 88) hl3
    obtain ⟨B4, f4, x4, hS4⟩ := hO2.reads (bytes := 8) (by have := HNN.out; omega)
    injection x1 with x1 _ y1; injection x2 with x2 _ y2; injection x3 with x3 _ y3; injection x4 with x4 _ y4
    subst x1 y1 x2 y2 x3 y3 x4 y4
    have KK : ∀ (a b : Array Value), Kp (fun b => w.heap.size + 3 ≤ b ∧ some b ≠ (Value.slice A4' s.ids.length c4').ownBlock) wc ((w2.setRow (w.heap.size + 2) a).setRow w.heap.size b) := fun a b =>
      ((((((Kp.refl _ _).below HW.out).alloc (.cells #[.int .i64 id] 3)).grown hgr (fun b hb => hb.2)).put (fun b hb => by have := hb.1; omega) _).put (fun b hb => by have := hb.1; omega) _)
    have HRD2 : Aside (∀ (a b : Array Value), RdSes (fun b => w.heap.size + 3 ≤ b) ((w2.setRow (w.heap.size + 2) a).setRow w.heap.size b) (tookS s id) A1' c1' A2' c2' A3' c3' A5 c5) := ⟨fun a b => ⟨(hS1.kp (KK a b)).mono (fun b hb _ => hb.1), (hS2.kp (KK a b)).mono (fun b hb _ => hb.1), (hS3.kp (KK a b)).mono (fun b hb _ => hb.1),
      (hS4.kp (((Kp.refl _ _).put (fun b hb => by have := hb.1.1; omega) _).put (fun b hb => by have := hb.1.1; omega) _)).mono (fun b hb _ => hb.1.1)⟩⟩
    have HBB := Aside.mk (((below_all HR.out.below HR.out.below.size HW.out).alloc (by omega) (.cells #[.int .i64 id] 3)).grown hgr (by simp; omega) (fun b hb => by have := (hrow b hb).1; omega))
    have hq2 : ¬ w.heap.size + 1 + 1 = w.heap.size := by omega
    obtain ⟨k0c, k0f, k0s, k0h⟩ := k0.all
    obtain ⟨k2c, k2f, k2s, k2h⟩ := k2.all
    have K2 := Aside.mk k2
    clear hO2 hgr hat k0 k2 hS1 hS2 hS3 hS4 KK e0c e0f e1c e1f hrow hv2 hv3 hil
    go_wp2_with fail
    refine bodyPost_ret (res_ctt rfl _ _ (w.heap.size + 2) 27 _ _ rfl ((K2.out.put _).other (g' := w.heap.size) (by omega) _) Try.underlying27 rfl (by kernel_rfl)) rfl ?_
    refine ⟨_, rfl, ⟨A1', c1', A2', c2', A3', c3', A5, c5, rfl, ?_⟩, ?_⟩
    · exact (HRD2.out _ _).mono (fun b hb _ => by omega)
    · exact below_put (below_put HBB.out (by omega) _) (Nat.le_refl _) _

theorem take_any (s : Ses) (A1 : Option Addr) (c1 : Nat) (A2 : Option Addr) (c2 : Nat) (A3 : Option Addr) (c3 : Nat) (A4 : Option Addr) (c4 : Nat) (id : Int) (ok : Nat → Prop) (w : World)
    (h : RdSes ok w s A1 c1 A2 c2 A3 c3 A4 c4) (hl5 : s.flight.length ≤ 1000) :
    Calls Try.prog 21 #[.agg (sesCells s A1 c1 A2 c2 A3 c3 A4 c4), .int .i64 id] w (Post21 (takeD s id) w) := by
  unfold takeD
  by_cases h0 : id < 1
  · rw [if_pos (.inl h0)]
    exact take_low s A1 c1 A2 c2 A3 c3 A4 c4 id ok w h hl5 h0
  · by_cases h1 : 65535 < id
    · rw [if_pos (.inr h1)]
      exact take_high s A1 c1 A2 c2 A3 c3 A4 c4 id ok w h hl5 (by omega) h1
    · rw [if_neg (by omega)]
      cases hc : s.ids.contains id with
      | true =>
        rw [if_pos rfl]
        exact take_has s A1 c1 A2 c2 A3 c3 A4 c4 id ok w h hl5 (by omega) (by omega) hc
      | false =>
        rw [if_neg (by decide)]
        by_cases hn : 64 ≤ s.ids.length
        · rw [if_pos hn]
          exact take_full s A1 c1 A2 c2 A3 c3 A4 c4 id ok w h hl5 (by omega) (by omega) hc hn
        · rw [if_neg hn]
          cases hp : placeG s.ids id with
          | none => exact take_new_none s A1 c1 A2 c2 A3 c3 A4 c4 id ok w h hl5 (by omega) (by omega) hc (by omega) hp
          | some i => exact take_new_some s A1 c1 A2 c2 A3 c3 A4 c4 i id ok w h hl5 (by omega) (by omega) hc (by omega) hp
end Go.Proofs.Ytmeeldcgmfplnaa
