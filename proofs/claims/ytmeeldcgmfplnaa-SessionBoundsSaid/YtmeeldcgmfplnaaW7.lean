/-
  Contract: session.Deliver, whole.
-/
import Derived.Test.YtmeeldcgmfplnaaW6
set_option linter.unusedVariables false
set_option linter.unusedSimpArgs false
namespace Go.Proofs.Ytmeeldcgmfplnaa
open Go.RowKit
attribute [local go_sem] setRow_setCell_same setRow_setCell_other setRow_cell_same setRow_cell_other setRow_frozen setRow_shape
attribute [local go_sem ↓] Go.wp_at_zero Go.wp_at_succ

set_option maxRecDepth 100000 in
set_option maxHeartbeats 2000000 in
theorem deliver_send1 (s : Ses) (A1 : Option Addr) (c1 : Nat) (A2 : Option Addr) (c2 : Nat) (A3 : Option Addr) (c3 : Nat) (A4 : Option Addr) (c4 : Nat) (m : Msg) (Am : Option Addr) (cm : Nat) (ok okm : Nat → Prop) (w : World)
    (h : RdSes ok w s A1 c1 A2 c2 A3 c3 A4 c4) (hm : Sl 1 kU8 okm w Am cm m.p) (hq : m.q = 1) (hf : s.flight.length < 4) (hn : s.queue.length = 0) :
    Calls Try.prog 13 #[.agg (sesCells s A1 c1 A2 c2 A3 c3 A4 c4), .agg #[.string m.t, .slice Am m.p.length cm, .int .i64 m.q, .bool m.r, .int .i64 m.u], .bool true] w (Post13 (sendS s m, [pub m (nxt s.flight s.nid) false], false) w) := by
  have hl1 := h.subs.2.2.1; have hl2 := h.queue.2.2.1; have hl3 := h.flight.2.2.1; have hl4 := h.ids.2.2.1
  have H := Aside.mk h; have HM := Aside.mk hm
  clear h hm
  have HF := Aside.mk hf; have HN := Aside.mk hn; have HQ := Aside.mk hq
  clear hf hn hq
  simp only [sesCells]
  go_enter Try.func13, Try.ntmps13
  go_upto_region 1 with fail
  go_cut [] (fun wx => ∃ A1' c1' A2' c2' A3' c3' A4' c4', R13 s m Am cm w wx A1' c1' A2' c2' A3' c3' A4' c4')
  case first =>
    go_wp2_with fail
    refine (own_any' s A1 c1 A2 c2 A3 c3 A4 c4 ok _ ?hS).mono ?_
    case hS => exact H.out.below (by repeat (first | exact Below.refl _ _ | refine Below.drew ?_ | (refine Below.alloc ?_ (by simp <;> omega) _)))
    rintro e w1 ⟨A1', c1', A2', c2', A3', c3', A4', c4', rfl, hO, hb1⟩
    have d0 := (((Blk.new w 27 _).alloc _).alloc _).below hb1 (by simp <;> omega)
    have d1 := ((Blk.newAt _ (w.heap.size + 1) (by simp) 30 _).alloc _).below hb1 (by simp <;> omega)
    have d2 := (Blk.newAt _ (w.heap.size + 2) (by simp) 27 _).below hb1 (by simp <;> omega)
    have hB1 : Below w.heap.size w w1 := Below.trans (by repeat (first | exact Below.refl _ _ | refine Below.drew ?_ | (refine Below.alloc ?_ (by simp <;> omega) _))) (hb1.mono (by simp; omega))
    have HR := Aside.mk (show R13 s m Am cm w (w1.setRow w.heap.size (sesCells s A1' c1' A2' c2' A3' c3' A4' c4')) A1' c1' A2' c2' A3' c3' A4' c4' from
      ⟨d0.put _, d1.other (by omega) _, d2.other (by omega) _, hO.kp ((Kp.refl _ _).put (fun b hb => by simp at hb; omega) _) (by simp), below_put hB1 (Nat.le_refl _) _⟩)
    obtain ⟨d0c, d0f, d0s, d0h⟩ := d0.all
    clear hO hb1 d0 d1 d2 hB1
    go_wp2_with fail
    go_meet
    exact ⟨A1', c1', A2', c2', A3', c3', A4', c4', HR.out⟩
  case rest =>
    obtain ⟨A1', c1', A2', c2', A3', c3', A4', c4', hR⟩ := hcut
    obtain ⟨d0c, d0f, d0s, d0h⟩ := hR.b1.all
    obtain ⟨d1c, d1f, d1s, d1h⟩ := hR.b2.all
    obtain ⟨d2c, d2f, d2s, d2h⟩ := hR.b3.all
    have hsz : w.heap.size + 3 ≤ wc.heap.size := by have := hR.b3.lt; omega
    have HR := Aside.mk hR
    clear hR
    have hl3' : s.flight.length ≤ 140737488355328 := by omega
    have hl2' : s.queue.length ≤ 140737488355328 := by omega
    have hb0 : (m.q == 0) = false := by simp [HQ.out]
    have hb1 : (m.q != 1) = false := by simp [HQ.out]
    have hb2 : (m.q != 2) = true := by simp [HQ.out]
    have hf3 : (s.flight.length : Int) < 4 := by have := HF.out; omega
    have hf4 : ((s.queue.length : Int) == 0) = true := by simp [HN.out]
    go_upto_region 7 with fail
    go_cut [9, 10] (fun p q wx => ∃ g Ap cp A3s c3s, p = .pointer (some ⟨g, 0, none⟩) ∧ q = .bool true ∧ R9 s m w A1' c1' A2' c2' A4' c4' g Ap cp A3s c3s wx)
    case first =>
      go_wp2_with fail
      refine (send_any s.cl (.slice A1' s.subs.length c1') (.slice A2' s.queue.length c2') (.slice A4' s.ids.length c4') A3' c3' s.flight s.nid s.hd s.snt m Am cm okm (fun b => w.heap.size + 3 ≤ b ∧ some b ≠ (Value.slice A2' s.queue.length c2').ownBlock) (w.heap.size + 3) w.heap.size _ HR.out.b1 HR.out.own.flight (HM.out.below HR.out.below) HF.out (nxt_ne _ _ HF.out) (nxt_in64 _ _) hsz (fun b hb => by have := hb.1; omega) (fun b hb => ⟨by omega, fun e => by have := (HR.out.own.queue.ge b e.symm).2; omega⟩)).mono ?_
      rintro e w1 ⟨Ap, cp, A3s, c3s, rfl, f0, hF, hP, hT, hAt⟩
      have hgr := fun b (e : (Value.slice A3' s.flight.length c3').ownBlock = some b) => (HR.out.own.flight.ge b e).1
      have f2 := hT.blk HR.out.b3 (by omega) (fun e => by have := hgr _ e.symm; omega)
      have hlt : w.heap.size + 2 < w1.heap.size := f2.lt
      have HR1 := Aside.mk (show R9 s m w A1' c1' A2' c2' A4' c4' w1.heap.size Ap cp A3s c3s (w1.alloc (.cells (pktCells (pub m (nxt s.flight s.nid) false) Ap cp).toArray 43)) from {
        b1 := f0.alloc _
        b3 := f2.alloc _
        bp := Blk.new _ _ _
        gp := hlt
        own := (HR.out.own.turned hT (by omega) hAt hF (nxt s.flight s.nid) (up s.snt)).kp ((Kp.refl _ _).alloc _) (Nat.le_refl _)
        pay := (hP.mono (ok' := fun b => w.heap.size + 2 < b) (fun b hb _ => by have := hb.1; omega)).kp ((Kp.refl _ _).alloc _)
        below := ((HR.out.below.trans (hT.toBelow (B := w.heap.size) (by omega) (Nat.le_refl _) (fun b hb => by have := hgr b hb; omega)))).alloc (by omega) _ })
      clear f0 f2 hP hT hAt hF hgr
      go_wp2_with fail
      go_meet
      exact ⟨_, Ap, cp, A3s, c3s, rfl, rfl, HR1.out⟩
    case rest =>
      clear hf3 hf4 hb0 hb1 hl3' hl2' d0c d0f d0s d0h d1c d1f d1s d1h d2c d2f d2s d2h hsz HR
      rename_i wd
      obtain ⟨g, Ap, cp, A3s, c3s, rfl, rfl, hR⟩ := hcut
      obtain ⟨d0c, d0f, _, _⟩ := hR.b1.all
      obtain ⟨d1c, d1f, _, _⟩ := hR.bp.all
      obtain ⟨d2c, d2f, d2s, d2h⟩ := hR.b3.all
      have hgp := hR.gp
      have HR := Aside.mk hR
      clear hR
      have hk0 : w.heap.size < wc.heap.size := HR.out.b1.lt
      have hk2 : w.heap.size + 2 < wc.heap.size := HR.out.b3.lt
      have hkg : g < wc.heap.size := HR.out.bp.lt
      have hn0 : ¬ w.heap.size = wc.heap.size := by omega
      have hn2 : ¬ w.heap.size + 2 = wc.heap.size := by omega
      have hng : ¬ g = wc.heap.size := by omega
      have hng2 : ¬ g = w.heap.size + 2 := by omega
      have hng3 : ¬ g = w.heap.size := by omega
      go_upto_region 9 with fail
      go_region_with fail
      all_goals
        go_wp2_with fail
        refine bodyPost_ret (res_ctt rfl _ _ (w.heap.size + 2) 27 _ _ rfl ((HR.out.b3.put _).alloc _) Try.underlying27 rfl (by kernel_rfl)) rfl ?_
        have e : (sendS s m).flight.length = s.flight.length + 1 := by simp [sendS]
        refine ⟨_, _, rfl, ⟨A1', c1', A2', c2', A3s, c3s, A4', c4', by rw [sesCells, e]; rfl, ?_⟩, IsPktsIn.lit _ wc.heap.size (by simp) (p := pub m (nxt s.flight s.nid) false) ((HR.out.pay.kp (Kp.put (Kp.refl _ _) (g := w.heap.size + 2) (fun b hb => by omega) _)).move (fun _ _ _ => rfl)) (fun b hb _ => by omega) (by have := HR.out.b3.lt; omega), ?_⟩
        · exact ((HR.out.rd hl1 hl2 HF.out hl4).move ((Kp.alloc (Kp.put (Kp.refl _ _) (g := w.heap.size + 2) (fun b hb => by omega) _) _).drew).2).mono (fun b hb _ => by omega)
        · exact ((below_put HR.out.below (g := w.heap.size + 2) (by omega) _).alloc (by simp; omega) _).drew

set_option maxRecDepth 100000 in
set_option maxHeartbeats 2000000 in
theorem deliver_send2 (s : Ses) (A1 : Option Addr) (c1 : Nat) (A2 : Option Addr) (c2 : Nat) (A3 : Option Addr) (c3 : Nat) (A4 : Option Addr) (c4 : Nat) (m : Msg) (Am : Option Addr) (cm : Nat) (ok okm : Nat → Prop) (w : World)
    (h : RdSes ok w s A1 c1 A2 c2 A3 c3 A4 c4) (hm : Sl 1 kU8 okm w Am cm m.p) (hq : m.q = 2) (hf : s.flight.length < 4) (hn : s.queue.length = 0) :
    Calls Try.prog 13 #[.agg (sesCells s A1 c1 A2 c2 A3 c3 A4 c4), .agg #[.string m.t, .slice Am m.p.length cm, .int .i64 m.q, .bool m.r, .int .i64 m.u], .bool true] w (Post13 (sendS s m, [pub m (nxt s.flight s.nid) false], false) w) := by
  have hl1 := h.subs.2.2.1; have hl2 := h.queue.2.2.1; have hl3 := h.flight.2.2.1; have hl4 := h.ids.2.2.1
  have H := Aside.mk h; have HM := Aside.mk hm
  clear h hm
  have HF := Aside.mk hf; have HN := Aside.mk hn; have HQ := Aside.mk hq
  clear hf hn hq
  simp only [sesCells]
  go_enter Try.func13, Try.ntmps13
  go_upto_region 1 with fail
  go_cut [] (fun wx => ∃ A1' c1' A2' c2' A3' c3' A4' c4', R13 s m Am cm w wx A1' c1' A2' c2' A3' c3' A4' c4')
  case first =>
    go_wp2_with fail
    refine (own_any' s A1 c1 A2 c2 A3 c3 A4 c4 ok _ ?hS).mono ?_
    case hS => exact H.out.below (by repeat (first | exact Below.refl _ _ | refine Below.drew ?_ | (refine Below.alloc ?_ (by simp <;> omega) _)))
    rintro e w1 ⟨A1', c1', A2', c2', A3', c3', A4', c4', rfl, hO, hb1⟩
    have d0 := (((Blk.new w 27 _).alloc _).alloc _).below hb1 (by simp <;> omega)
    have d1 := ((Blk.newAt _ (w.heap.size + 1) (by simp) 30 _).alloc _).below hb1 (by simp <;> omega)
    have d2 := (Blk.newAt _ (w.heap.size + 2) (by simp) 27 _).below hb1 (by simp <;> omega)
    have hB1 : Below w.heap.size w w1 := Below.trans (by repeat (first | exact Below.refl _ _ | refine Below.drew ?_ | (refine Below.alloc ?_ (by simp <;> omega) _))) (hb1.mono (by simp; omega))
    have HR := Aside.mk (show R13 s m Am cm w (w1.setRow w.heap.size (sesCells s A1' c1' A2' c2' A3' c3' A4' c4')) A1' c1' A2' c2' A3' c3' A4' c4' from
      ⟨d0.put _, d1.other (by omega) _, d2.other (by omega) _, hO.kp ((Kp.refl _ _).put (fun b hb => by simp at hb; omega) _) (by simp), below_put hB1 (Nat.le_refl _) _⟩)
    obtain ⟨d0c, d0f, d0s, d0h⟩ := d0.all
    clear hO hb1 d0 d1 d2 hB1
    go_wp2_with fail
    go_meet
    exact ⟨A1', c1', A2', c2', A3', c3', A4', c4', HR.out⟩
  case rest =>
    obtain ⟨A1', c1', A2', c2', A3', c3', A4', c4', hR⟩ := hcut
    obtain ⟨d0c, d0f, d0s, d0h⟩ := hR.b1.all
    obtain ⟨d1c, d1f, d1s, d1h⟩ := hR.b2.all
    obtain ⟨d2c, d2f, d2s, d2h⟩ := hR.b3.all
    have hsz : w.heap.size + 3 ≤ wc.heap.size := by have := hR.b3.lt; omega
    have HR := Aside.mk hR
    clear hR
    have hl3' : s.flight.length ≤ 140737488355328 := by omega
    have hl2' : s.queue.length ≤ 140737488355328 := by omega
    have hb0 : (m.q == 0) = false := by simp [HQ.out]
    have hb1 : (m.q != 1) = true := by simp [HQ.out]
    have hb2 : (m.q != 2) = false := by simp [HQ.out]
    have hf3 : (s.flight.length : Int) < 4 := by have := HF.out; omega
    have hf4 : ((s.queue.length : Int) == 0) = true := by simp [HN.out]
    go_upto_region 7 with fail
    go_cut [9, 10] (fun p q wx => ∃ g Ap cp A3s c3s, p = .pointer (some ⟨g, 0, none⟩) ∧ q = .bool true ∧ R9 s m w A1' c1' A2' c2' A4' c4' g Ap cp A3s c3s wx)
    case first =>
      go_wp2_with fail
      refine (send_any s.cl (.slice A1' s.subs.length c1') (.slice A2' s.queue.length c2') (.slice A4' s.ids.length c4') A3' c3' s.flight s.nid s.hd s.snt m Am cm okm (fun b => w.heap.size + 3 ≤ b ∧ some b ≠ (Value.slice A2' s.queue.length c2').ownBlock) (w.heap.size + 3) w.heap.size _ HR.out.b1 HR.out.own.flight (HM.out.below HR.out.below) HF.out (nxt_ne _ _ HF.out) (nxt_in64 _ _) hsz (fun b hb => by have := hb.1; omega) (fun b hb => ⟨by omega, fun e => by have := (HR.out.own.queue.ge b e.symm).2; omega⟩)).mono ?_
      rintro e w1 ⟨Ap, cp, A3s, c3s, rfl, f0, hF, hP, hT, hAt⟩
      have hgr := fun b (e : (Value.slice A3' s.flight.length c3').ownBlock = some b) => (HR.out.own.flight.ge b e).1
      have f2 := hT.blk HR.out.b3 (by omega) (fun e => by have := hgr _ e.symm; omega)
      have hlt : w.heap.size + 2 < w1.heap.size := f2.lt
      have HR1 := Aside.mk (show R9 s m w A1' c1' A2' c2' A4' c4' w1.heap.size Ap cp A3s c3s (w1.alloc (.cells (pktCells (pub m (nxt s.flight s.nid) false) Ap cp).toArray 43)) from {
        b1 := f0.alloc _
        b3 := f2.alloc _
        bp := Blk.new _ _ _
        gp := hlt
        own := (HR.out.own.turned hT (by omega) hAt hF (nxt s.flight s.nid) (up s.snt)).kp ((Kp.refl _ _).alloc _) (Nat.le_refl _)
        pay := (hP.mono (ok' := fun b => w.heap.size + 2 < b) (fun b hb _ => by have := hb.1; omega)).kp ((Kp.refl _ _).alloc _)
        below := ((HR.out.below.trans (hT.toBelow (B := w.heap.size) (by omega) (Nat.le_refl _) (fun b hb => by have := hgr b hb; omega)))).alloc (by omega) _ })
      clear f0 f2 hP hT hAt hF hgr
      go_wp2_with fail
      go_meet
      exact ⟨_, Ap, cp, A3s, c3s, rfl, rfl, HR1.out⟩
    case rest =>
      clear hf3 hf4 hb0 hb1 hl3' hl2' d0c d0f d0s d0h d1c d1f d1s d1h d2c d2f d2s d2h hsz HR
      rename_i wd
      obtain ⟨g, Ap, cp, A3s, c3s, rfl, rfl, hR⟩ := hcut
      obtain ⟨d0c, d0f, _, _⟩ := hR.b1.all
      obtain ⟨d1c, d1f, _, _⟩ := hR.bp.all
      obtain ⟨d2c, d2f, d2s, d2h⟩ := hR.b3.all
      have hgp := hR.gp
      have HR := Aside.mk hR
      clear hR
      have hk0 : w.heap.size < wc.heap.size := HR.out.b1.lt
      have hk2 : w.heap.size + 2 < wc.heap.size := HR.out.b3.lt
      have hkg : g < wc.heap.size := HR.out.bp.lt
      have hn0 : ¬ w.heap.size = wc.heap.size := by omega
      have hn2 : ¬ w.heap.size + 2 = wc.heap.size := by omega
      have hng : ¬ g = wc.heap.size := by omega
      have hng2 : ¬ g = w.heap.size + 2 := by omega
      have hng3 : ¬ g = w.heap.size := by omega
      go_upto_region 9 with fail
      go_region_with fail
      all_goals
        go_wp2_with fail
        refine bodyPost_ret (res_ctt rfl _ _ (w.heap.size + 2) 27 _ _ rfl ((HR.out.b3.put _).alloc _) Try.underlying27 rfl (by kernel_rfl)) rfl ?_
        have e : (sendS s m).flight.length = s.flight.length + 1 := by simp [sendS]
        refine ⟨_, _, rfl, ⟨A1', c1', A2', c2', A3s, c3s, A4', c4', by rw [sesCells, e]; rfl, ?_⟩, IsPktsIn.lit _ wc.heap.size (by simp) (p := pub m (nxt s.flight s.nid) false) ((HR.out.pay.kp (Kp.put (Kp.refl _ _) (g := w.heap.size + 2) (fun b hb => by omega) _)).move (fun _ _ _ => rfl)) (fun b hb _ => by omega) (by have := HR.out.b3.lt; omega), ?_⟩
        · exact ((HR.out.rd hl1 hl2 HF.out hl4).move ((Kp.alloc (Kp.put (Kp.refl _ _) (g := w.heap.size + 2) (fun b hb => by omega) _) _).drew).2).mono (fun b hb _ => by omega)
        · exact ((below_put HR.out.below (g := w.heap.size + 2) (by omega) _).alloc (by simp; omega) _).drew


theorem deliver_any (s : Ses) (A1 : Option Addr) (c1 : Nat) (A2 : Option Addr) (c2 : Nat) (A3 : Option Addr) (c3 : Nat) (A4 : Option Addr) (c4 : Nat) (m : Msg) (Am : Option Addr) (cm : Nat) (on : Bool) (ok okm : Nat → Prop) (w : World)
    (h : RdSes ok w s A1 c1 A2 c2 A3 c3 A4 c4) (hm : Sl 1 kU8 okm w Am cm m.p) :
    Calls Try.prog 13 #[.agg (sesCells s A1 c1 A2 c2 A3 c3 A4 c4), .agg #[.string m.t, .slice Am m.p.length cm, .int .i64 m.q, .bool m.r, .int .i64 m.u], .bool on] w (Post13 (deliverD s m on) w) := by
  unfold deliverD
  by_cases h0 : m.q = 0 ∧ on = true
  · rw [if_pos h0]
    obtain ⟨h0, rfl⟩ := h0
    exact deliver_q0 s A1 c1 A2 c2 A3 c3 A4 c4 m Am cm ok okm w h hm (by simp [h0])
  · rw [if_neg h0]
    by_cases h1 : m.q ≠ 1 ∧ m.q ≠ 2
    · rw [if_pos h1]
      exact deliver_bad s A1 c1 A2 c2 A3 c3 A4 c4 m Am cm ok okm w h hm on _ rfl h1.1 h1.2 (by simpa using h0)
    · rw [if_neg h1]
      have hq : m.q = 1 ∨ m.q = 2 := by omega
      by_cases h2 : on = true ∧ s.flight.length < 4 ∧ s.queue.length = 0
      · rw [if_pos h2]
        obtain ⟨rfl, h3, h4⟩ := h2
        rcases hq with hq | hq
        · exact deliver_send1 s A1 c1 A2 c2 A3 c3 A4 c4 m Am cm ok okm w h hm hq h3 h4
        · exact deliver_send2 s A1 c1 A2 c2 A3 c3 A4 c4 m Am cm ok okm w h hm hq h3 h4
      · rw [if_neg h2]
        by_cases h3 : 16 ≤ s.queue.length
        · rw [if_pos h3]
          exact deliver_full s A1 c1 A2 c2 A3 c3 A4 c4 m Am cm ok okm w h hm on hq h3
        · rw [if_neg h3]
          exact deliver_queue s A1 c1 A2 c2 A3 c3 A4 c4 m Am cm ok okm w h hm on hq (by omega) h2
end Go.Proofs.Ytmeeldcgmfplnaa
