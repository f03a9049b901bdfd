/-
  Contracts: light, awake, and the law SessionDelivers.
-/
import Derived.Test.YtmeeldcgmfplnaaW7
import Derived.Test.YtmeeldcgmfplnaaW10
import Derived.Test.YtmeeldcgmfplnaaW12
set_option linter.unusedVariables false
set_option linter.unusedSimpArgs false
namespace Go.Proofs.Ytmeeldcgmfplnaa
open Go.RowKit
attribute [local go_sem] setRow_setCell_same setRow_setCell_other setRow_cell_same setRow_cell_other setRow_frozen setRow_shape
attribute [local go_sem ↓] Go.wp_at_zero Go.wp_at_succ

def lightB (s : Ses) : Bool := decide (s.queue.length ≤ 60) && decide (s.flight.length ≤ 60) && decide (s.ids.length ≤ 100) && decide (s.subs.length ≤ 60)

set_option maxRecDepth 100000 in
set_option maxHeartbeats 1000000 in
theorem light_any (s : Ses) (A1 : Option Addr) (c1 : Nat) (A2 : Option Addr) (c2 : Nat) (A3 : Option Addr) (c3 : Nat) (A4 : Option Addr) (c4 : Nat) (ok : Nat → Prop) (w : World) (h : RdSes ok w s A1 c1 A2 c2 A3 c3 A4 c4) :
    Calls Try.prog 11 #[.agg (sesCells s A1 c1 A2 c2 A3 c3 A4 c4)] w (fun e w' => e = .returned (.bool (lightB s)) ∧ Below w.heap.size w w') := by
  have hl1 := h.subs.2.2.1; have hl2 := h.queue.2.2.1; have hl3 := h.flight.2.2.1; have hl4 := h.ids.2.2.1
  have hl1' : s.subs.length ≤ 140737488355328 := by omega
  have hl2' : s.queue.length ≤ 140737488355328 := by omega
  have hl3' : s.flight.length ≤ 140737488355328 := by omega
  have hl4' : s.ids.length ≤ 140737488355328 := by omega
  clear h
  unfold lightB
  by_cases h2 : (s.queue.length : Int) ≤ 60
  · have g2 := Aside.mk (show s.queue.length ≤ 60 by omega)
    by_cases h3 : (s.flight.length : Int) ≤ 60
    · have g3 := Aside.mk (show s.flight.length ≤ 60 by omega)
      by_cases h4 : (s.ids.length : Int) ≤ 100
      · have g4 := Aside.mk (show s.ids.length ≤ 100 by omega)
        by_cases h1 : (s.subs.length : Int) ≤ 60
        · have g1 := Aside.mk (show s.subs.length ≤ 60 by omega)
          go_enter Try.func11, Try.ntmps11
          go_wp2_with fail
          go_ret
          exact ⟨by simp [g1.out, g2.out, g3.out, g4.out], (Below.refl _ _).alloc (Nat.le_refl _) _⟩
        · have g1 := Aside.mk (show ¬ s.subs.length ≤ 60 by omega)
          go_enter Try.func11, Try.ntmps11
          go_wp2_with fail
          go_ret
          exact ⟨by simp [g1.out], (Below.refl _ _).alloc (Nat.le_refl _) _⟩
      · have g4 := Aside.mk (show ¬ s.ids.length ≤ 100 by omega)
        go_enter Try.func11, Try.ntmps11
        go_wp2_with fail
        go_ret
        exact ⟨by simp [g4.out], (Below.refl _ _).alloc (Nat.le_refl _) _⟩
    · have g3 := Aside.mk (show ¬ s.flight.length ≤ 60 by omega)
      go_enter Try.func11, Try.ntmps11
      go_wp2_with fail
      go_ret
      exact ⟨by simp [g3.out], (Below.refl _ _).alloc (Nat.le_refl _) _⟩
  · have g2 := Aside.mk (show ¬ s.queue.length ≤ 60 by omega)
    go_enter Try.func11, Try.ntmps11
    go_wp2_with fail
    go_ret
    exact ⟨by simp [g2.out], (Below.refl _ _).alloc (Nat.le_refl _) _⟩

/-- The session that is nothing yet. -/
def ses0 : Ses := ⟨⟨#[]⟩, [], [], [], [], 0, 0, 0⟩
theorem ses0_rd (ok : Nat → Prop) (w : World) : RdSes ok w ses0 none 0 none 0 none 0 none 0 := ⟨Sl.nil _ _ _ _, Sl.nil _ _ _ _, Sl.nil _ _ _ _, Sl.nil _ _ _ _⟩
def msg0 : Msg := ⟨⟨#[116]⟩, [], 1, false, 0⟩
theorem nxt0 : nxt [] 0 = 1 := by
  unfold nxt
  rw [show (65535 : Nat) = 65534 + 1 from rfl, nxtFrom_succ]
  simp
theorem deliver0 : deliverD ses0 msg0 true = (sendS ses0 msg0, [pub msg0 (nxt [] 0) false], false) := by
  unfold deliverD
  simp [ses0, msg0]

set_option maxRecDepth 100000 in
set_option maxHeartbeats 1000000 in
theorem awake_any (w : World) : Calls Try.prog 12 #[] w (PostT w) := by
  go_enter Try.func12, Try.ntmps12
  go_wp2_with fail
  refine (deliver_any ses0 none 0 none 0 none 0 none 0 msg0 none 0 true (fun _ => True) (fun _ => True) w (ses0_rd _ _) (Sl.nil _ _ _ _)).mono ?_
  rintro e w1 ⟨vs, vp, rfl, hs, hp, hb⟩
  rw [deliver0] at hs hp
  obtain ⟨B1, d1, B2, d2, B3, d3, B4, d4, rfl, hrd⟩ := hs
  obtain ⟨Bp, dp, rfl, hpk⟩ := hp
  have hfl : (sendS ses0 msg0).flight = [fly msg0 1 0] := by simp [sendS, ses0, nxt0]
  obtain ⟨ad, A', c', rfl, hP, hw, e0, e1, e2, e3, e4, e5, e6, e7⟩ := flt_at hrd.flight.2.2.2 (i := 0) (by rw [hfl]; decide) (x := fly msg0 1 0) (by rw [hfl]; rfl)
  have hlen : (sendS ses0 msg0).flight.length = 1 := by rw [hfl]; rfl
  have e0' : w1.cell? ad = some (.int .i64 1) := by simpa [Addr.add, fly] using e0
  have hB := Aside.mk hb
  have hlt := World.block_lt_of_cell? _ _ e0'
  have hne : ¬ ad.block = w1.heap.size := by omega
  clear hP hw e0 e1 e2 e3 e4 e5 e6 e7 hfl hb hrd hpk
  simp only [sesCells, hlen, deliver0, List.length_singleton]
  go_wp2_with fail
  go_ret
  exact ⟨by simp, hB.out.alloc hB.out.size _⟩

set_option maxRecDepth 100000 in
set_option maxHeartbeats 2000000 in
theorem delivers_any (s : Ses) (A1 : Option Addr) (c1 : Nat) (A2 : Option Addr) (c2 : Nat) (A3 : Option Addr) (c3 : Nat) (A4 : Option Addr) (c4 : Nat) (m : Msg) (Am : Option Addr) (cm : Nat) (on : Bool) (ok okm : Nat → Prop) (w : World)
    (h : RdSes ok w s A1 c1 A2 c2 A3 c3 A4 c4) (hm : Sl 1 kU8 okm w Am cm m.p) :
    Calls Try.prog 3 #[.agg (sesCells s A1 c1 A2 c2 A3 c3 A4 c4), .agg #[.string m.t, .slice Am m.p.length cm, .int .i64 m.q, .bool m.r, .int .i64 m.u], .bool on] w (PostT w) := by
  have H := Aside.mk h; have HM := Aside.mk hm
  clear h hm
  simp only [sesCells]
  go_enter Try.func3, Try.ntmps3
  go_wp2_with fail
  refine (light_any s A1 c1 A2 c2 A3 c3 A4 c4 ok _ ?hS).mono ?_
  case hS => exact H.out.below (by repeat (first | exact Below.refl _ _ | refine Below.drew ?_ | (refine Below.alloc ?_ (by simp) _)))
  rintro e w1 ⟨rfl, hb1⟩
  have d0 := ((Blk.new w 27 (sesCells s A1 c1 A2 c2 A3 c3 A4 c4)).alloc (.cells (msgCells m Am cm).toArray 30)).below hb1 (by simp <;> omega)
  have d1 := (Blk.newAt _ (w.heap.size + 1) (by simp) 30 (msgCells m Am cm).toArray).below hb1 (by simp <;> omega)
  have hB1 := Aside.mk (below_all (((Below.refl w.heap.size w).alloc (Nat.le_refl _) (.cells (sesCells s A1 c1 A2 c2 A3 c3 A4 c4) 27)).alloc (by simp) (.cells (msgCells m Am cm).toArray 30)) (by simp; omega) hb1)
  have D0 := Aside.mk d0; have D1 := Aside.mk d1
  obtain ⟨d0c, d0f, _, _⟩ := d0.all
  obtain ⟨d1c, d1f, _, _⟩ := d1.all
  clear d0 d1 hb1
  cases hlight : lightB s
  · clear d0c d0f d1c d1f
    go_wp2_with fail
    refine (awake_any _).mono ?_
    rintro e w2 ⟨rfl, hb2⟩
    have HB2 := Aside.mk (below_all hB1.out hB1.out.size hb2)
    clear hb2
    go_wp2_with fail
    go_ret
    exact ⟨rfl, HB2.out⟩
  · go_wp2_with fail
    refine (deliver_any s A1 c1 A2 c2 A3 c3 A4 c4 m Am cm on ok okm _ (H.out.below hB1.out) (HM.out.below hB1.out)).mono ?_
    rintro e w2 ⟨vs, vp, rfl, ⟨B1, f1, B2, f2, B3, f3, B4, f4, rfl, hrd⟩, ⟨Bp, fp, rfl, hpk⟩, hb2⟩
    have HRD := Aside.mk hrd; have HPK := Aside.mk hpk
    have D0' := Aside.mk (D0.out.belowAll hb2); have D1' := Aside.mk (D1.out.belowAll hb2)
    have HB2 := Aside.mk (below_all hB1.out hB1.out.size hb2)
    have hlt0 := D0'.out.lt
    have hlt1 := D1'.out.lt
    have hne0 : ¬ w.heap.size = w2.heap.size := by omega
    have hne1 : ¬ w.heap.size + 1 = w2.heap.size := by omega
    clear d0c d0f d1c d1f hrd hpk hb2
    obtain ⟨d0c, d0f, _, _⟩ := D0'.out.all
    obtain ⟨d1c, d1f, _, _⟩ := D1'.out.all
    generalize hD : deliverD s m on = D at *
    obtain ⟨t, l, dd⟩ := D
    have HD := Aside.mk hD
    clear hD
    simp only [sesCells]
    go_wp2_with fail
    have HBa := Aside.mk (HB2.out.alloc HB2.out.size (.cells (sesCells t B1 f1 B2 f2 B3 f3 B4 f4) 27))
    refine (refDeliver_any s A1 c1 A2 c2 A3 c3 A4 c4 m Am cm on ok okm _ (H.out.below HBa.out) (HM.out.below HBa.out)).mono ?_
    rintro e w3 h3
    rw [HD.out] at h3
    obtain ⟨vs, vp, rfl, ⟨C1, g1, C2, g2, C3, g3, C4, g4, rfl, hrd2⟩, ⟨Cp, gp, rfl, hpk2⟩, hb3⟩ := h3
    have HRD2 := Aside.mk hrd2; have HPK2 := Aside.mk hpk2
    have hb23 : Below w2.heap.size w2 w3 := below_all ((Below.refl w2.heap.size w2).alloc (Nat.le_refl _) (.cells (sesCells t B1 f1 B2 f2 B3 f3 B4 f4) 27)) (by simp) hb3
    have T0 := Aside.mk ((Blk.new w2 27 (sesCells t B1 f1 B2 f2 B3 f3 B4 f4)).belowAll hb3)
    have HB23 := Aside.mk hb23
    have hlt3 := T0.out.lt
    have hne3 : ¬ w2.heap.size = w3.heap.size := by omega
    clear d0c d0f d1c d1f hrd2 hpk2 hb3 hb23 hlt0 hlt1 hne0 hne1
    obtain ⟨d0c, d0f, _, _⟩ := T0.out.all
    simp only [sesCells]
    go_wp2_with fail
    have HB4 : Aside (Below w3.heap.size w3 (w3.alloc (.cells (sesCells t C1 g1 C2 g2 C3 g3 C4 g4) 27))) := ⟨(Below.refl _ _).alloc (Nat.le_refl _) _⟩
    refine (sameSession_any t B1 f1 B2 f2 B3 f3 B4 f4 C1 g1 C2 g2 C3 g3 C4 g4 _ (fun _ => True) _ ((HRD.out.below HB23.out).below HB4.out) (HRD2.out.below HB4.out)).mono ?_
    rintro e w5 ⟨rfl, hb5⟩
    have HB5 := Aside.mk (below_all HB4.out HB4.out.size hb5)
    clear hb5
    go_wp2_with fail
    refine (sameAll_any l Bp fp Cp gp _ (fun _ => True) _ ((HPK.out.below HB23.out).below HB5.out) (HPK2.out.below HB5.out)).mono ?_
    rintro e w6 ⟨rfl, hb6⟩
    have HB6 := Aside.mk (below_all HB5.out HB5.out.size hb6)
    clear hb6
    go_wp2_with fail
    refine (awake_any _).mono ?_
    rintro e w7 ⟨rfl, hb7⟩
    have HB7 := Aside.mk (below_all HB6.out HB6.out.size hb7)
    clear hb7
    go_wp2_with fail
    go_ret
    exact ⟨by simp, HB2.out.trans ((below_all HB23.out HB23.out.size HB7.out).mono HB2.out.size)⟩
end Go.Proofs.Ytmeeldcgmfplnaa
