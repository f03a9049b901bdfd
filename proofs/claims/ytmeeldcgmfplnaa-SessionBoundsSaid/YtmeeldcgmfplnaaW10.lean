/-
  Contract of the reference: Deliver.
-/
import Derived.Test.YtmeeldcgmfplnaaW9
set_option linter.unusedVariables false
set_option linter.unusedSimpArgs false
namespace Go.Proofs.Ytmeeldcgmfplnaa
open Go.RowKit
attribute [local go_sem] setRow_setCell_same setRow_setCell_other setRow_cell_same setRow_cell_other setRow_frozen setRow_shape
attribute [local go_sem ↓] Go.wp_at_zero Go.wp_at_succ

/-- The three variables of the reference's Deliver. -/
structure R14 (s : Ses) (m : Msg) (Am : Option Addr) (cm : Nat) (w : World) (A1 : Option Addr) (c1 : Nat) (A2 : Option Addr) (c2 : Nat) (A3 : Option Addr) (c3 : Nat) (A4 : Option Addr) (c4 : Nat) (wx : World) : Prop where
  b0 : Blk wx w.heap.size 27 (sesCells s A1 c1 A2 c2 A3 c3 A4 c4)
  b1 : Blk wx (w.heap.size + 1) 30 (msgCells m Am cm).toArray
  b2 : Blk wx (w.heap.size + 2) 27 zeroSes
  below : Below w.heap.size w wx
/-- Behind the append. -/
structure R14b (s : Ses) (m : Msg) (w : World) (A1 : Option Addr) (c1 : Nat) (A3 : Option Addr) (c3 : Nat) (A4 : Option Addr) (c4 : Nat) (A2 : Option Addr) (c2 : Nat) (wx : World) : Prop where
  b0 : Blk wx w.heap.size 27 #[.string s.cl, .slice A1 s.subs.length c1, .slice A2 (s.queue.length + 1) c2, .slice A3 s.flight.length c3, .slice A4 s.ids.length c4, .int .i64 s.nid, .int .i64 s.hd, .int .i64 s.snt]
  b2 : Blk wx (w.heap.size + 2) 27 zeroSes
  qu : Sl 64 kMsg (fun b => b < w.heap.size ∨ w.heap.size + 3 ≤ b) wx A2 c2 (s.queue ++ [m])
  below : Below w.heap.size w wx

set_option maxRecDepth 100000 in
set_option maxHeartbeats 2000000 in
theorem refDeliver_bad (s : Ses) (A1 : Option Addr) (c1 : Nat) (A2 : Option Addr) (c2 : Nat) (A3 : Option Addr) (c3 : Nat) (A4 : Option Addr) (c4 : Nat) (m : Msg) (Am : Option Addr) (cm : Nat) (ok okm : Nat → Prop) (w : World)
    (h : RdSes ok w s A1 c1 A2 c2 A3 c3 A4 c4) (hm : Sl 1 kU8 okm w Am cm m.p) (on z : Bool) (hz : (m.q == 0) = z) (hq1 : m.q ≠ 1) (hq2 : m.q ≠ 2) (hq : ¬ (z = true ∧ on = true)) :
    Calls Try.prog 14 #[.agg (sesCells s A1 c1 A2 c2 A3 c3 A4 c4), .agg #[.string m.t, .slice Am m.p.length cm, .int .i64 m.q, .bool m.r, .int .i64 m.u], .bool on] w (Post14 (s, [], true) w) := by
  have hl2 := h.queue.2.2.1; have hl3 := h.flight.2.2.1
  have hl3' : s.flight.length ≤ 140737488355328 := by omega
  have hl2' : s.queue.length ≤ 140737488355328 := by omega
  have H := Aside.mk h; have HM := Aside.mk hm
  clear h hm
  have hb1 : (m.q != 1) = true := by simpa using hq1
  have hb2 : (m.q != 2) = true := by simpa using hq2
  have HQ := Aside.mk hq
  clear hq hq1 hq2
  simp only [sesCells]
  go_enter Try.func14, Try.ntmps14
  go_upto_region 1 with fail
  go_cut [11] (fun v wx => v = .bool false ∧ R14 s m Am cm w A1 c1 A2 c2 A3 c3 A4 c4 wx)
  case first =>
    have HR := Aside.mk (show R14 s m Am cm w A1 c1 A2 c2 A3 c3 A4 c4 (((w.alloc (.cells (sesCells s A1 c1 A2 c2 A3 c3 A4 c4) 27)).alloc (.cells (msgCells m Am cm).toArray 30)).alloc (.cells zeroSes 27)) from
      ⟨((Blk.new w 27 _).alloc _).alloc _, (Blk.newAt _ (w.heap.size + 1) (by simp) 30 _).alloc _, Blk.newAt _ (w.heap.size + 2) (by simp) 27 _, by repeat (first | exact Below.refl _ _ | refine Below.drew ?_ | (refine Below.alloc ?_ (by simp <;> omega) _))⟩)
    rcases z with _ | _
    · rcases on with _ | _
      all_goals
        go_wp2_with fail
        go_meet
        exact ⟨rfl, HR.out⟩
    · rcases on with _ | _
      · go_wp2_with fail
        go_meet
        exact ⟨rfl, HR.out⟩
      · exact absurd ⟨rfl, rfl⟩ HQ.out
  case rest =>
    obtain ⟨rfl, hR⟩ := hcut
    obtain ⟨d0c, d0f, d0s, d0h⟩ := hR.b0.all
    obtain ⟨d1c, d1f, d1s, d1h⟩ := hR.b1.all
    obtain ⟨d2c, d2f, d2s, d2h⟩ := hR.b2.all
    have hsz : w.heap.size + 3 ≤ wc.heap.size := by have := hR.b2.lt; omega
    have HR := Aside.mk hR
    clear hR
    clear hz
    go_wp2_with fail
    refine bodyPost_ret (res_ctt rfl _ _ (w.heap.size + 2) 27 (sesCells s A1 c1 A2 c2 A3 c3 A4 c4) _ rfl (HR.out.b2.put _) Try.underlying27 rfl (by kernel_rfl)) rfl ?_
    refine ⟨_, _, rfl, ⟨A1, c1, A2, c2, A3, c3, A4, c4, rfl, ?_⟩, ⟨none, 0, rfl, Sl.nil _ _ _ _⟩, ?_⟩
    · exact (((H.out.mono (ok' := fun b => b < w.heap.size) (fun b _ hlt => hlt)).below HR.out.below).move (Kp.put (Kp.refl _ _) (g := w.heap.size + 2) (fun b hb => by omega) _).2).mono (fun _ _ _ => trivial)
    · exact below_put HR.out.below (g := w.heap.size + 2) (by omega) _
set_option maxRecDepth 100000 in
set_option maxHeartbeats 2000000 in
theorem refDeliver_full (s : Ses) (A1 : Option Addr) (c1 : Nat) (A2 : Option Addr) (c2 : Nat) (A3 : Option Addr) (c3 : Nat) (A4 : Option Addr) (c4 : Nat) (m : Msg) (Am : Option Addr) (cm : Nat) (ok okm : Nat → Prop) (w : World)
    (h : RdSes ok w s A1 c1 A2 c2 A3 c3 A4 c4) (hm : Sl 1 kU8 okm w Am cm m.p) (on : Bool) (hq : m.q = 1 ∨ m.q = 2) (hn : 16 ≤ s.queue.length) (hc : ¬ (on = true ∧ s.flight.length < 4 ∧ s.queue.length = 0)) :
    Calls Try.prog 14 #[.agg (sesCells s A1 c1 A2 c2 A3 c3 A4 c4), .agg #[.string m.t, .slice Am m.p.length cm, .int .i64 m.q, .bool m.r, .int .i64 m.u], .bool on] w (Post14 (s, [], true) w) := by
  have hl2 := h.queue.2.2.1; have hl3 := h.flight.2.2.1
  have hl3' : s.flight.length ≤ 140737488355328 := by omega
  have hl2' : s.queue.length ≤ 140737488355328 := by omega
  have H := Aside.mk h; have HM := Aside.mk hm
  clear h hm
  have hb0 : (m.q == 0) = false := by rcases hq with hq | hq <;> simp [hq]
  have HQ := Aside.mk hq; have HC := Aside.mk hc
  clear hq hc
  simp only [sesCells]
  go_enter Try.func14, Try.ntmps14
  go_upto_region 1 with fail
  go_cut [11] (fun v wx => v = .bool false ∧ R14 s m Am cm w A1 c1 A2 c2 A3 c3 A4 c4 wx)
  case first =>
    have HR := Aside.mk (show R14 s m Am cm w A1 c1 A2 c2 A3 c3 A4 c4 (((w.alloc (.cells (sesCells s A1 c1 A2 c2 A3 c3 A4 c4) 27)).alloc (.cells (msgCells m Am cm).toArray 30)).alloc (.cells zeroSes 27)) from
      ⟨((Blk.new w 27 _).alloc _).alloc _, (Blk.newAt _ (w.heap.size + 1) (by simp) 30 _).alloc _, Blk.newAt _ (w.heap.size + 2) (by simp) 27 _, by repeat (first | exact Below.refl _ _ | refine Below.drew ?_ | (refine Below.alloc ?_ (by simp <;> omega) _))⟩)
    go_wp2_with fail
    go_meet
    exact ⟨rfl, HR.out⟩
  case rest =>
    obtain ⟨rfl, hR⟩ := hcut
    obtain ⟨d0c, d0f, d0s, d0h⟩ := hR.b0.all
    obtain ⟨d1c, d1f, d1s, d1h⟩ := hR.b1.all
    obtain ⟨d2c, d2f, d2s, d2h⟩ := hR.b2.all
    have hsz : w.heap.size + 3 ≤ wc.heap.size := by have := hR.b2.lt; omega
    have HR := Aside.mk hR
    clear hR
    go_upto_region 3 with fail
    go_cut [22] (fun v wx => v = .bool false ∧ Aside (R14 s m Am cm w A1 c1 A2 c2 A3 c3 A4 c4 wx))
    case first =>
      cases hb1 : (m.q != 1)
      · go_wp2_with fail
        go_meet
        exact ⟨rfl, HR⟩
      · have hb2 : (m.q != 2) = false := by
          rcases HQ.out with hq | hq
          · simp [hq] at hb1
          · simp [hq]
        go_wp2_with fail
        go_meet
        exact ⟨rfl, HR⟩
    case rest =>
      clear d0c d0f d0s d0h d1c d1f d1s d1h d2c d2f d2s d2h hsz HR
      obtain ⟨rfl, HR⟩ := hcut
      obtain ⟨d0c, d0f, d0s, d0h⟩ := HR.out.b0.all
      go_upto_region 5 with fail
      go_cut [32] (fun v wx => v = .bool false ∧ Aside (R14 s m Am cm w A1 c1 A2 c2 A3 c3 A4 c4 wx))
      case first =>
        rcases on with _ | _
        · go_wp2_with fail
          go_meet
          exact ⟨rfl, HR⟩
        · by_cases hf : (s.flight.length : Int) < 4
          · have hn2 : ((s.queue.length : Int) == 0) = false := by
              have h1 := HC.out
              simp only [true_and, not_and, decide_eq_true_eq] at h1
              exact beq_false_of_ne (by omega)
            go_wp2_with fail
            go_meet
            exact ⟨rfl, HR⟩
          · have hf3 : (4 : Int) ≤ (s.flight.length : Int) := by omega
            go_wp2_with fail
            go_meet
            exact ⟨rfl, HR⟩
      case rest =>
        clear d0c d0f d0s d0h HR
        obtain ⟨rfl, HR⟩ := hcut
        obtain ⟨d0c, d0f, d0s, d0h⟩ := HR.out.b0.all
        obtain ⟨d1c, d1f, d1s, d1h⟩ := HR.out.b1.all
        obtain ⟨d2c, d2f, d2s, d2h⟩ := HR.out.b2.all
        have hsz : w.heap.size + 3 ≤ wc.heap.size := by have := HR.out.b2.lt; omega
        have hn4 : (16 : Int) ≤ (s.queue.length : Int) := by omega
        go_wp2_with fail
        refine bodyPost_ret (res_ctt rfl _ _ (w.heap.size + 2) 27 (sesCells s A1 c1 A2 c2 A3 c3 A4 c4) _ rfl (HR.out.b2.put _) Try.underlying27 rfl (by kernel_rfl)) rfl ?_
        refine ⟨_, _, rfl, ⟨A1, c1, A2, c2, A3, c3, A4, c4, rfl, ?_⟩, ⟨none, 0, rfl, Sl.nil _ _ _ _⟩, ?_⟩
        · exact (((H.out.mono (ok' := fun b => b < w.heap.size) (fun b _ hlt => hlt)).below HR.out.below).move (Kp.put (Kp.refl _ _) (g := w.heap.size + 2) (fun b hb => by omega) _).2).mono (fun _ _ _ => trivial)
        · exact below_put HR.out.below (g := w.heap.size + 2) (by omega) _
set_option maxRecDepth 100000 in
set_option maxHeartbeats 2000000 in
theorem refDeliver_q0 (s : Ses) (A1 : Option Addr) (c1 : Nat) (A2 : Option Addr) (c2 : Nat) (A3 : Option Addr) (c3 : Nat) (A4 : Option Addr) (c4 : Nat) (m : Msg) (Am : Option Addr) (cm : Nat) (ok okm : Nat → Prop) (w : World)
    (h : RdSes ok w s A1 c1 A2 c2 A3 c3 A4 c4) (hm : Sl 1 kU8 okm w Am cm m.p) (hq0 : (m.q == 0) = true) :
    Calls Try.prog 14 #[.agg (sesCells s A1 c1 A2 c2 A3 c3 A4 c4), .agg #[.string m.t, .slice Am m.p.length cm, .int .i64 m.q, .bool m.r, .int .i64 m.u], .bool true] w (Post14 (s, [pub m 0 false], false) w) := by
  have hl2 := h.queue.2.2.1; have hl3 := h.flight.2.2.1
  have hl3' : s.flight.length ≤ 140737488355328 := by omega
  have hl2' : s.queue.length ≤ 140737488355328 := by omega
  have H := Aside.mk h; have HM := Aside.mk hm
  clear h hm
  simp only [sesCells]
  go_enter Try.func14, Try.ntmps14
  go_upto_region 1 with fail
  go_cut [11] (fun v wx => v = .bool true ∧ R14 s m Am cm w A1 c1 A2 c2 A3 c3 A4 c4 wx)
  case first =>
    have HR := Aside.mk (show R14 s m Am cm w A1 c1 A2 c2 A3 c3 A4 c4 (((w.alloc (.cells (sesCells s A1 c1 A2 c2 A3 c3 A4 c4) 27)).alloc (.cells (msgCells m Am cm).toArray 30)).alloc (.cells zeroSes 27)) from
      ⟨((Blk.new w 27 _).alloc _).alloc _, (Blk.newAt _ (w.heap.size + 1) (by simp) 30 _).alloc _, Blk.newAt _ (w.heap.size + 2) (by simp) 27 _, by repeat (first | exact Below.refl _ _ | refine Below.drew ?_ | (refine Below.alloc ?_ (by simp <;> omega) _))⟩)
    go_wp2_with fail
    go_meet
    exact ⟨rfl, HR.out⟩
  case rest =>
    obtain ⟨rfl, hR⟩ := hcut
    obtain ⟨d0c, d0f, d0s, d0h⟩ := hR.b0.all
    obtain ⟨d1c, d1f, d1s, d1h⟩ := hR.b1.all
    obtain ⟨d2c, d2f, d2s, d2h⟩ := hR.b2.all
    have hsz : w.heap.size + 3 ≤ wc.heap.size := by have := hR.b2.lt; omega
    have HR := Aside.mk hR
    clear hR
    go_upto_region 2 with fail
    go_region_held3 (fun w' => w'.cell? ⟨w.heap.size, 0, none⟩ = some (.string s.cl) ∧ w'.cell? ⟨w.heap.size, 1, none⟩ = some (.slice A1 s.subs.length c1) ∧ w'.cell? ⟨w.heap.size, 2, none⟩ = some (.slice A2 s.queue.length c2) ∧ w'.cell? ⟨w.heap.size, 3, none⟩ = some (.slice A3 s.flight.length c3) ∧ w'.cell? ⟨w.heap.size, 4, none⟩ = some (.slice A4 s.ids.length c4) ∧ w'.cell? ⟨w.heap.size, 5, none⟩ = some (.int .i64 s.nid) ∧ w'.cell? ⟨w.heap.size, 6, none⟩ = some (.int .i64 s.hd) ∧ w'.cell? ⟨w.heap.size, 7, none⟩ = some (.int .i64 s.snt) ∧ w'.cell? ⟨w.heap.size + 1, 0, none⟩ = some (.string m.t) ∧ w'.cell? ⟨w.heap.size + 1, 1, none⟩ = some (.slice Am m.p.length cm) ∧ w'.cell? ⟨w.heap.size + 1, 2, none⟩ = some (.int .i64 m.q) ∧ w'.cell? ⟨w.heap.size + 1, 3, none⟩ = some (.bool m.r) ∧ w'.cell? ⟨w.heap.size + 1, 4, none⟩ = some (.int .i64 m.u)) (first | go_keep | simp [drew_cell, setRow_cell_other, World.cell?_alloc_some, *])
      (first | (go_at_call 29; refine (told_any m Am cm 0 false _).mono ?_; rintro e wv ⟨rfl, hb1⟩; have e0 := (HR.out.b0.drew).belowAll hb1; have e1 := (HR.out.b1.drew).belowAll hb1; have e2 := (HR.out.b2.drew).belowAll hb1; obtain ⟨e0c, e0f, e0s, e0h⟩ := e0.all; obtain ⟨e1c, e1f, e1s, e1h⟩ := e1.all; obtain ⟨e2c, e2f, e2s, e2h⟩ := e2.all; have hlt1 : w.heap.size + 2 < wv.heap.size := e2.lt; have hlt2 : w.heap.size + 1 < wv.heap.size := (by omega); have hlt3 : w.heap.size < wv.heap.size := (by omega); have hne1 : ¬ w.heap.size + 2 = wv.heap.size := (by omega); have hne2 : ¬ w.heap.size + 1 = wv.heap.size := (by omega); have hne3 : ¬ w.heap.size = wv.heap.size := (by omega)))
    all_goals
      go_wp2_with fail
      have hbw : Below wc.heap.size wc wv := Below.trans ((Below.refl wc.heap.size wc).drew) hb1
      refine bodyPost_ret (res_ctt rfl _ _ (w.heap.size + 2) 27 (sesCells s A1 c1 A2 c2 A3 c3 A4 c4) _ rfl ((e2.put _).alloc _) Try.underlying27 rfl (by kernel_rfl)) rfl ?_
      refine ⟨_, _, rfl, ⟨A1, c1, A2, c2, A3, c3, A4, c4, rfl, ?_⟩, IsPkts.lit wv.heap.size (by simp) (p := pub m 0 false) ((((HM.out.mono (ok' := fun b => b < w.heap.size) (fun b _ hlt => hlt)).below HR.out.below).below hbw).kp (Kp.put (Kp.refl _ _) (g := w.heap.size + 2) (fun b hb => by omega) _)), ?_⟩
      · exact ((((H.out.mono (ok' := fun b => b < w.heap.size) (fun b _ hlt => hlt)).below HR.out.below).below hbw).move (Kp.alloc (Kp.put (Kp.refl _ _) (g := w.heap.size + 2) (fun b hb => by omega) _) _).2).mono (fun _ _ _ => trivial)
      · exact (below_put (HR.out.below.trans (hbw.mono (by omega))) (g := w.heap.size + 2) (by omega) _).alloc (by simp; omega) _
set_option maxRecDepth 100000 in
set_option maxHeartbeats 2000000 in
theorem refDeliver_queue (s : Ses) (A1 : Option Addr) (c1 : Nat) (A2 : Option Addr) (c2 : Nat) (A3 : Option Addr) (c3 : Nat) (A4 : Option Addr) (c4 : Nat) (m : Msg) (Am : Option Addr) (cm : Nat) (ok okm : Nat → Prop) (w : World)
    (h : RdSes ok w s A1 c1 A2 c2 A3 c3 A4 c4) (hm : Sl 1 kU8 okm w Am cm m.p) (on : Bool) (hq : m.q = 1 ∨ m.q = 2) (hn : s.queue.length < 16) (hc : ¬ (on = true ∧ s.flight.length < 4 ∧ s.queue.length = 0)) :
    Calls Try.prog 14 #[.agg (sesCells s A1 c1 A2 c2 A3 c3 A4 c4), .agg #[.string m.t, .slice Am m.p.length cm, .int .i64 m.q, .bool m.r, .int .i64 m.u], .bool on] w (Post14 (queueS s m, [], false) w) := by
  have hl2 := h.queue.2.2.1; have hl3 := h.flight.2.2.1
  have hl3' : s.flight.length ≤ 140737488355328 := by omega
  have hl2' : s.queue.length ≤ 140737488355328 := by omega
  have H := Aside.mk h; have HM := Aside.mk hm
  clear h hm
  have hb0 : (m.q == 0) = false := by rcases hq with hq | hq <;> simp [hq]
  have HQ := Aside.mk hq; have HC := Aside.mk hc
  have HN := Aside.mk hn
  clear hq hc hn
  simp only [sesCells]
  go_enter Try.func14, Try.ntmps14
  go_upto_region 1 with fail
  go_cut [11] (fun v wx => v = .bool false ∧ R14 s m Am cm w A1 c1 A2 c2 A3 c3 A4 c4 wx)
  case first =>
    have HR := Aside.mk (show R14 s m Am cm w A1 c1 A2 c2 A3 c3 A4 c4 (((w.alloc (.cells (sesCells s A1 c1 A2 c2 A3 c3 A4 c4) 27)).alloc (.cells (msgCells m Am cm).toArray 30)).alloc (.cells zeroSes 27)) from
      ⟨((Blk.new w 27 _).alloc _).alloc _, (Blk.newAt _ (w.heap.size + 1) (by simp) 30 _).alloc _, Blk.newAt _ (w.heap.size + 2) (by simp) 27 _, by repeat (first | exact Below.refl _ _ | refine Below.drew ?_ | (refine Below.alloc ?_ (by simp <;> omega) _))⟩)
    go_wp2_with fail
    go_meet
    exact ⟨rfl, HR.out⟩
  case rest =>
    obtain ⟨rfl, hR⟩ := hcut
    obtain ⟨d0c, d0f, d0s, d0h⟩ := hR.b0.all
    obtain ⟨d1c, d1f, d1s, d1h⟩ := hR.b1.all
    obtain ⟨d2c, d2f, d2s, d2h⟩ := hR.b2.all
    have hsz : w.heap.size + 3 ≤ wc.heap.size := by have := hR.b2.lt; omega
    have HR := Aside.mk hR
    clear hR
    go_upto_region 3 with fail
    go_cut [22] (fun v wx => v = .bool false ∧ Aside (R14 s m Am cm w A1 c1 A2 c2 A3 c3 A4 c4 wx))
    case first =>
      cases hb1 : (m.q != 1)
      · go_wp2_with fail
        go_meet
        exact ⟨rfl, HR⟩
      · have hb2 : (m.q != 2) = false := by
          rcases HQ.out with hq | hq
          · simp [hq] at hb1
          · simp [hq]
        go_wp2_with fail
        go_meet
        exact ⟨rfl, HR⟩
    case rest =>
      clear d0c d0f d0s d0h d1c d1f d1s d1h d2c d2f d2s d2h hsz HR
      obtain ⟨rfl, HR⟩ := hcut
      obtain ⟨d0c, d0f, d0s, d0h⟩ := HR.out.b0.all
      go_upto_region 5 with fail
      go_cut [32] (fun v wx => v = .bool false ∧ Aside (R14 s m Am cm w A1 c1 A2 c2 A3 c3 A4 c4 wx))
      case first =>
        rcases on with _ | _
        · go_wp2_with fail
          go_meet
          exact ⟨rfl, HR⟩
        · by_cases hf : (s.flight.length : Int) < 4
          · have hn2 : ((s.queue.length : Int) == 0) = false := by
              have h1 := HC.out
              simp only [true_and, not_and, decide_eq_true_eq] at h1
              exact beq_false_of_ne (by omega)
            go_wp2_with fail
            go_meet
            exact ⟨rfl, HR⟩
          · have hf3 : (4 : Int) ≤ (s.flight.length : Int) := by omega
            go_wp2_with fail
            go_meet
            exact ⟨rfl, HR⟩
      case rest =>
        clear d0c d0f d0s d0h HR
        obtain ⟨rfl, HR⟩ := hcut
        obtain ⟨d0c, d0f, d0s, d0h⟩ := HR.out.b0.all
        obtain ⟨d1c, d1f, d1s, d1h⟩ := HR.out.b1.all
        obtain ⟨d2c, d2f, d2s, d2h⟩ := HR.out.b2.all
        have hsz : w.heap.size + 3 ≤ wc.heap.size := by have := HR.out.b2.lt; omega
        have hn4 : (s.queue.length : Int) < 16 := by have := HN.out; omega
        go_upto_region 9 with fail
        clear hn4 d0s d0h d1s d1h d2c d2f d2s d2h
        go_cut [] (fun wx => ∃ A2s c2s, R14b s m w A1 c1 A3 c3 A4 c4 A2s c2s wx)
        case first =>
          have hlt0 : w.heap.size < wc.heap.size := by omega
          have hlt1 : w.heap.size + 1 < wc.heap.size := by omega
          have hne0 : ¬ w.heap.size = wc.heap.size := by omega
          have hne1 : ¬ w.heap.size + 1 = wc.heap.size := by omega
          have hlt0' : w.heap.size < wc.heap.size + 1 := by omega
          have hlt1' : w.heap.size + 1 < wc.heap.size + 1 := by omega
          have hs3 := Aside.mk hsz
          have HPW := Aside.mk ((HM.out.mono (ok' := fun b => b < w.heap.size) (fun b _ hlt => hlt)).below HR.out.below)
          have HQW := Aside.mk ((H.out.queue.mono (ok' := fun b => b < w.heap.size) (fun b _ hlt => hlt)))
          go_region_law
            (first
              | (refine step_append_Own (P := Try.prog) _ (by rfl) kMsg (.const (.slice none 0 0)) (.tmp 60) 23 30 (by rfl) (.agg #[.string ⟨#[]⟩, .slice none 0 0, .int .i64 0, .bool false, .int .i64 0]) 64 Try.underlying23 info30 rfl (by decide) (ok := fun b => b < w.heap.size ∨ wc.heap.size ≤ b) (okp := fun b => b < w.heap.size) (lo := wc.heap.size) (v := .slice none 0 0) (xs := []) (ys := s.queue) (by rfl) ?_ (A := A2) (m := s.queue.length) (c := c2) (by rfl) ?_ ?_ ?_ ?_ ?_ ?_; exact Own.nil _ _ _ _ _; (refine Kn.C_free (HQW.out.below ?_).2.2.2; repeat (first | exact HR.out.below | refine Below.drew ?_ | refine Below.alloc ?_ (by first | omega | (simp <;> omega)) _)); exact (fun b hb _ => ⟨.inl hb, (by simp [Value.ownBlock])⟩); exact (fun b hb => .inr (by first | omega | (simp at hb; omega))); (first | omega | (simp <;> omega)); (have := HN.out; simp; omega); intro v1 wv hO1 hg1 hat1; have hbv := Aside.mk (below_of_grown_none hg1); have hsv := Aside.mk hbv.out.size; have e0 : Blk wv w.heap.size 27 (sesCells s A1 c1 A2 c2 A3 c3 A4 c4) := Blk.belowAll (by first | exact HR.out.b0.drew | exact (HR.out.b0.alloc _).drew) hbv.out; have e1 : Blk wv (w.heap.size + 1) 30 (msgCells m Am cm).toArray := Blk.belowAll (by first | exact HR.out.b1.drew | exact (HR.out.b1.alloc _).drew) hbv.out; have e2 : Blk wv (w.heap.size + 2) 27 zeroSes := Blk.belowAll (by first | exact HR.out.b2.drew | exact (HR.out.b2.alloc _).drew) hbv.out;  obtain ⟨e0c, e0f, _, _⟩ := e0.all; obtain ⟨e1c, e1f, _, _⟩ := e1.all; have HV := Aside.mk (show wc.heap.size ≤ wv.heap.size from (by have := hsv.out; simp at this; omega)); have hO1' := Aside.mk hO1; have hE := Aside.mk (And.intro e0 (And.intro e1 e2)); clear hO1 hg1 hat1 e0 e1 e2)
              | (refine step_append_Own (P := Try.prog) _ (by rfl) kMsg (.tmp 61) (.tmp 63) 23 30 (by rfl) (.agg #[.string ⟨#[]⟩, .slice none 0 0, .int .i64 0, .bool false, .int .i64 0]) 64 Try.underlying23 info30 rfl (by decide) (ok := fun b => b < w.heap.size ∨ wc.heap.size ≤ b) (okp := fun b => b < w.heap.size) (lo := wc.heap.size) (v := v1) (xs := s.queue) (ys := [m]) (by rfl) ?_ (A := some ⟨wv.heap.size, 0, none⟩) (m := 1) (c := 1) (by rfl) ?_ ?_ ?_ ?_ ?_ ?_; exact hO1'.out.below ((Below.refl _ _).alloc (Nat.le_refl _) _); exact Cf_litAt kMsg wv.heap.size rfl (msgCells m Am cm) 30 ⟨Am, cm, rfl, HPW.out.below (Below.trans ((Below.refl wc.heap.size wc).drew) hbv.out)⟩; exact (fun b hb _ => ⟨.inl hb, fun e => (by have := (hO1'.out.ge b e.symm).1; have := hs3.out; omega)⟩); exact (fun b hb => .inr (by simp at hb; have := HV.out; omega)); (have := HV.out; simp; omega); (have := HN.out; simp; omega); intro v2 wv2 hO2 hg2 hat2; obtain ⟨A2s, c2s, hv3, hSl⟩ := hO2.reads (bytes := 64) (by have := HN.out; simp; omega); rw [List.length_append, List.length_singleton] at hv3; subst hv3; have hnv : ∀ b, b < wc.heap.size → some b ≠ v1.ownBlock := (fun b hb e => (by have := (hO1'.out.ge b e.symm).1; omega)); have k0 := (hE.out.1.alloc (.cells (msgCells m Am cm).toArray 30)).grown hg2 (hnv _ HR.out.b0.lt); have k1 := (hE.out.2.1.alloc (.cells (msgCells m Am cm).toArray 30)).grown hg2 (hnv _ HR.out.b1.lt); have k2 := (hE.out.2.2.alloc (.cells (msgCells m Am cm).toArray 30)).grown hg2 (hnv _ HR.out.b2.lt); have kB : Below wc.heap.size wc wv2 := ((Below.trans ((Below.refl wc.heap.size wc).drew) hbv.out).alloc HV.out (.cells (msgCells m Am cm).toArray 30)).grown hg2 (by have := HV.out; simp; omega) (fun b hb => (hO1'.out.ge b hb).1); have hK := Aside.mk (And.intro k0 (And.intro k1 (And.intro k2 (And.intro kB hSl)))); obtain ⟨k0c, k0f, k0s, k0h⟩ := k0.all; clear hO2 hg2 hat2 k0 k1 k2 kB hSl hnv)
              | (refine step_append_Own (P := Try.prog) _ (by rfl) kMsg (.tmp 61) (.tmp 63) 23 30 (by rfl) (.agg #[.string ⟨#[]⟩, .slice none 0 0, .int .i64 0, .bool false, .int .i64 0]) 64 Try.underlying23 info30 rfl (by decide) (ok := fun b => b < w.heap.size ∨ wc.heap.size ≤ b) (okp := fun b => b < w.heap.size) (lo := wc.heap.size) (v := v1) (xs := s.queue) (ys := [m]) (by rfl) ?_ (A := some ⟨wc.heap.size, 0, none⟩) (m := 1) (c := 1) (by rfl) ?_ ?_ ?_ ?_ ?_ ?_; exact hO1'.out; exact Cf_below (Cf_litAt (w := wc) kMsg wc.heap.size rfl (msgCells m Am cm) 30 ⟨Am, cm, rfl, HPW.out⟩) (Below.trans (Below.drew (Below.refl _ _)) hbv.out); exact (fun b hb _ => ⟨.inl hb, fun e => (by have := (hO1'.out.ge b e.symm).1; have := hs3.out; omega)⟩); exact (fun b hb => .inr (by have := HV.out; omega)); exact HV.out; (have := HN.out; simp; omega); intro v2 wv2 hO2 hg2 hat2; obtain ⟨A2s, c2s, hv3, hSl⟩ := hO2.reads (bytes := 64) (by have := HN.out; simp; omega); rw [List.length_append, List.length_singleton] at hv3; subst hv3; have hnv : ∀ b, b < wc.heap.size → some b ≠ v1.ownBlock := (fun b hb e => (by have := (hO1'.out.ge b e.symm).1; omega)); have k0 := hE.out.1.grown hg2 (hnv _ HR.out.b0.lt); have k1 := hE.out.2.1.grown hg2 (hnv _ HR.out.b1.lt); have k2 := hE.out.2.2.grown hg2 (hnv _ HR.out.b2.lt); have kB : Below wc.heap.size wc wv2 := (Below.trans ((((Below.refl wc.heap.size wc).alloc (Nat.le_refl _) (.cells (msgCells m Am cm).toArray 30))).drew) (hbv.out.mono (by simp))).grown hg2 HV.out (fun b hb => (hO1'.out.ge b hb).1); have hK := Aside.mk (And.intro k0 (And.intro k1 (And.intro k2 (And.intro kB hSl)))); obtain ⟨k0c, k0f, k0s, k0h⟩ := k0.all; clear hO2 hg2 hat2 k0 k1 k2 kB hSl hnv))
          all_goals
            have HX : Aside (R14b s m w A1 c1 A3 c3 A4 c4 A2s c2s (wv2.setRow w.heap.size #[.string s.cl, .slice A1 s.subs.length c1, .slice A2s (s.queue.length + 1) c2s, .slice A3 s.flight.length c3, .slice A4 s.ids.length c4, .int .i64 s.nid, .int .i64 s.hd, .int .i64 s.snt])) := ⟨{
              b0 := hK.out.1.put _
              b2 := hK.out.2.2.1.other (by omega) _
              qu := (hK.out.2.2.2.2.mono (ok' := fun b => b < w.heap.size ∨ w.heap.size + 3 ≤ b) (fun b hb _ => by have := hs3.out; omega)).kp ((Kp.refl _ _).put (fun b hb => by omega) _)
              below := below_put (HR.out.below.trans (hK.out.2.2.2.1.mono (by omega))) (Nat.le_refl _) _ }⟩
            go_wp2_with fail
            go_meet
            exact ⟨A2s, c2s, HX.out⟩
        case rest =>
          clear d0c d0f d1c d1f HR
          obtain ⟨A2s, c2s, hR⟩ := hcut
          obtain ⟨d0c, d0f, _, _⟩ := hR.b0.all
          obtain ⟨d2c, d2f, d2s, d2h⟩ := hR.b2.all
          have HR := Aside.mk hR
          clear hR
          go_wp2_with fail
          refine bodyPost_ret (res_ctt rfl _ _ (w.heap.size + 2) 27 _ _ rfl (HR.out.b2.put _) Try.underlying27 rfl (by kernel_rfl)) rfl ?_
          have e : (queueS s m).queue.length = s.queue.length + 1 := by simp [queueS]
          refine ⟨_, _, rfl, ⟨A1, c1, A2s, c2s, A3, c3, A4, c4, by rw [sesCells, e]; rfl, ?_⟩, ⟨none, 0, rfl, Sl.nil _ _ _ _⟩, ?_⟩
          · have hmv : Kp (fun b => b < w.heap.size ∨ w.heap.size + 3 ≤ b) wc (wc.setRow (w.heap.size + 2) #[.string s.cl, .slice A1 s.subs.length c1, .slice A2s (s.queue.length + 1) c2s, .slice A3 s.flight.length c3, .slice A4 s.ids.length c4, .int .i64 s.nid, .int .i64 s.hd, .int .i64 s.snt]) := (Kp.refl _ _).put (fun b hb => by omega) _
            have hrd := (H.out.mono (ok' := fun b => b < w.heap.size ∨ w.heap.size + 3 ≤ b) (fun b _ hlt => .inl hlt)).below HR.out.below
            exact ⟨(hrd.subs.kp hmv).mono (fun _ _ _ => trivial), (HR.out.qu.kp hmv).mono (fun _ _ _ => trivial), (hrd.flight.kp hmv).mono (fun _ _ _ => trivial), (hrd.ids.kp hmv).mono (fun _ _ _ => trivial)⟩
          · exact (below_put HR.out.below (g := w.heap.size + 2) (by omega) _)
set_option maxRecDepth 100000 in
set_option maxHeartbeats 2000000 in
theorem refDeliver_send (s : Ses) (A1 : Option Addr) (c1 : Nat) (A2 : Option Addr) (c2 : Nat) (A3 : Option Addr) (c3 : Nat) (A4 : Option Addr) (c4 : Nat) (m : Msg) (Am : Option Addr) (cm : Nat) (ok okm : Nat → Prop) (w : World)
    (h : RdSes ok w s A1 c1 A2 c2 A3 c3 A4 c4) (hm : Sl 1 kU8 okm w Am cm m.p) (hq : m.q = 1 ∨ m.q = 2) (hf : s.flight.length < 4) (hn : s.queue.length = 0) :
    Calls Try.prog 14 #[.agg (sesCells s A1 c1 A2 c2 A3 c3 A4 c4), .agg #[.string m.t, .slice Am m.p.length cm, .int .i64 m.q, .bool m.r, .int .i64 m.u], .bool true] w (Post14 (sendS s m, [pub m (nxt s.flight s.nid) false], false) w) := by
  have hl2 := h.queue.2.2.1; have hl3 := h.flight.2.2.1
  have hl3' : s.flight.length ≤ 140737488355328 := by omega
  have hl2' : s.queue.length ≤ 140737488355328 := by omega
  have H := Aside.mk h; have HM := Aside.mk hm
  clear h hm
  have hb0 : (m.q == 0) = false := by rcases hq with hq | hq <;> simp [hq]
  have HF := Aside.mk hf; have HN := Aside.mk hn; have HQ := Aside.mk hq
  clear hq hf hn
  simp only [sesCells]
  go_enter Try.func14, Try.ntmps14
  go_upto_region 1 with fail
  go_cut [11] (fun v wx => v = .bool false ∧ R14 s m Am cm w A1 c1 A2 c2 A3 c3 A4 c4 wx)
  case first =>
    have HR := Aside.mk (show R14 s m Am cm w A1 c1 A2 c2 A3 c3 A4 c4 (((w.alloc (.cells (sesCells s A1 c1 A2 c2 A3 c3 A4 c4) 27)).alloc (.cells (msgCells m Am cm).toArray 30)).alloc (.cells zeroSes 27)) from
      ⟨((Blk.new w 27 _).alloc _).alloc _, (Blk.newAt _ (w.heap.size + 1) (by simp) 30 _).alloc _, Blk.newAt _ (w.heap.size + 2) (by simp) 27 _, by repeat (first | exact Below.refl _ _ | refine Below.drew ?_ | (refine Below.alloc ?_ (by simp <;> omega) _))⟩)
    go_wp2_with fail
    go_meet
    exact ⟨rfl, HR.out⟩
  case rest =>
    obtain ⟨rfl, hR⟩ := hcut
    obtain ⟨d0c, d0f, d0s, d0h⟩ := hR.b0.all
    obtain ⟨d1c, d1f, d1s, d1h⟩ := hR.b1.all
    obtain ⟨d2c, d2f, d2s, d2h⟩ := hR.b2.all
    have hsz : w.heap.size + 3 ≤ wc.heap.size := by have := hR.b2.lt; omega
    have HR := Aside.mk hR
    clear hR
    go_upto_region 3 with fail
    go_cut [22] (fun v wx => v = .bool false ∧ Aside (R14 s m Am cm w A1 c1 A2 c2 A3 c3 A4 c4 wx))
    case first =>
      cases hb1 : (m.q != 1)
      · go_wp2_with fail
        go_meet
        exact ⟨rfl, HR⟩
      · have hb2 : (m.q != 2) = false := by
          rcases HQ.out with hq | hq
          · simp [hq] at hb1
          · simp [hq]
        go_wp2_with fail
        go_meet
        exact ⟨rfl, HR⟩
    case rest =>
      clear d0c d0f d0s d0h d1c d1f d1s d1h d2c d2f d2s d2h hsz HR
      obtain ⟨rfl, HR⟩ := hcut
      obtain ⟨d0c, d0f, d0s, d0h⟩ := HR.out.b0.all
      have hf3 : (s.flight.length : Int) < 4 := by have := HF.out; omega
      have hf4 : ((s.queue.length : Int) == 0) = true := by simp [HN.out]
      obtain ⟨d1c, d1f, d1s, d1h⟩ := HR.out.b1.all
      go_wp2_with fail
      refine (refSend_any s A1 c1 A2 c2 A3 c3 A4 c4 m Am cm (fun b => b < w.heap.size) _ ((H.out.mono (fun b _ hlt => hlt)).below HR.out.below) ((HM.out.mono (fun b _ hlt => hlt)).below HR.out.below) HF.out).mono ?_
      rintro e wv ⟨vs, vp, rfl, ⟨B1, e1, B2, e2, B3, e3, B4, e4, rfl, hrd⟩, ⟨Bp, ep, rfl, hpk⟩, hb1⟩
      have f2 := HR.out.b2.belowAll hb1
      obtain ⟨f2c, f2f, f2s, f2h⟩ := f2.all
      have hlt2 : w.heap.size + 2 < wv.heap.size := f2.lt
      have hne2 : ¬ w.heap.size + 2 = wv.heap.size := by omega
      have hws := Aside.mk hb1.size
      have hrd' := Aside.mk hrd; have hpk' := Aside.mk hpk; have HB := Aside.mk hb1; have F2 := Aside.mk f2
      clear hrd hpk hb1 f2 d0c d0f d0s d0h d1c d1f d1s d1h
      simp only [sesCells]
      go_wp2_with fail
      have hmv : Kp (fun b => (b < w.heap.size ∧ b < wc.heap.size) ∨ wc.heap.size ≤ b) wv ((wv.setRow (w.heap.size + 2) (sesCells (sendS s m) B1 e1 B2 e2 B3 e3 B4 e4)).alloc (.cells (sesCells (sendS s m) B1 e1 B2 e2 B3 e3 B4 e4) 27)) := ((Kp.refl _ _).put (fun b hb => by have := HR.out.b2.lt; omega) _).alloc _
      refine bodyPost_ret (res_ctt rfl _ _ (w.heap.size + 2) 27 _ _ rfl ((F2.out.put _).alloc _) Try.underlying27 rfl (by kernel_rfl)) rfl ?_
      refine ⟨_, _, rfl, ⟨B1, e1, B2, e2, B3, e3, B4, e4, rfl, (hrd'.out.move hmv.2).mono (fun _ _ _ => trivial)⟩, ⟨Bp, ep, rfl, (hpk'.out.kp hmv).mono (fun _ _ _ => trivial)⟩, ?_⟩
      exact (below_put (HR.out.below.trans (HB.out.mono (by have := HR.out.b2.lt; omega))) (g := w.heap.size + 2) (by omega) _).alloc (by simp; omega) _

theorem refDeliver_any (s : Ses) (A1 : Option Addr) (c1 : Nat) (A2 : Option Addr) (c2 : Nat) (A3 : Option Addr) (c3 : Nat) (A4 : Option Addr) (c4 : Nat) (m : Msg) (Am : Option Addr) (cm : Nat) (on : Bool) (ok okm : Nat → Prop) (w : World)
    (h : RdSes ok w s A1 c1 A2 c2 A3 c3 A4 c4) (hm : Sl 1 kU8 okm w Am cm m.p) :
    Calls Try.prog 14 #[.agg (sesCells s A1 c1 A2 c2 A3 c3 A4 c4), .agg #[.string m.t, .slice Am m.p.length cm, .int .i64 m.q, .bool m.r, .int .i64 m.u], .bool on] w (Post14 (deliverD s m on) w) := by
  unfold deliverD
  by_cases h0 : m.q = 0 ∧ on = true
  · rw [if_pos h0]
    obtain ⟨h0, rfl⟩ := h0
    exact refDeliver_q0 s A1 c1 A2 c2 A3 c3 A4 c4 m Am cm ok okm w h hm (by simp [h0])
  · rw [if_neg h0]
    by_cases h1 : m.q ≠ 1 ∧ m.q ≠ 2
    · rw [if_pos h1]
      exact refDeliver_bad s A1 c1 A2 c2 A3 c3 A4 c4 m Am cm ok okm w h hm on _ rfl h1.1 h1.2 (by simpa using h0)
    · rw [if_neg h1]
      have hq : m.q = 1 ∨ m.q = 2 := by omega
      by_cases h2 : on = true ∧ s.flight.length < 4 ∧ s.queue.length = 0
      · rw [if_pos h2]
        obtain ⟨rfl, h3, h4⟩ := h2
        exact refDeliver_send s A1 c1 A2 c2 A3 c3 A4 c4 m Am cm ok okm w h hm hq h3 h4
      · rw [if_neg h2]
        by_cases h3 : 16 ≤ s.queue.length
        · rw [if_pos h3]
          exact refDeliver_full s A1 c1 A2 c2 A3 c3 A4 c4 m Am cm ok okm w h hm on hq h3 h2
        · rw [if_neg h3]
          exact refDeliver_queue s A1 c1 A2 c2 A3 c3 A4 c4 m Am cm ok okm w h hm on hq (by omega) h2
end Go.Proofs.Ytmeeldcgmfplnaa
