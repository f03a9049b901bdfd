/-
  The walk of the law SessionAway.
-/
import Derived.Test.YtmeeldcgmfplnaaW16
import Derived.Deep.QuietTactic
import Derived.BigQuiet
set_option linter.unusedVariables false
set_option linter.unusedSimpArgs false
namespace Go.Proofs.Ytmeeldcgmfplnaa
open Go.RowKit Go.BigFrame
attribute [local go_sem] setRow_setCell_same setRow_setCell_other setRow_cell_same setRow_cell_other setRow_frozen setRow_shape
attribute [local go_sem ↓] Go.wp_at_zero Go.wp_at_succ

/-- The code behind so many statements. -/
def tailN : Nat → Code → Code
  | n + 1, .seq _ b => tailN n b
  | _, c => c
noncomputable def rest4 : Code := tailN 4 ((Try.f4.body).getD .skip)

set_option maxRecDepth 100000 in
set_option maxHeartbeats 8000000 in
theorem away_rest (l : List Msg) (A : Option Addr) (c : Nat) (w : World) (hl : l.length ≤ 140737488355328) (u2 u4 u5 u6 u7 u8 u9 u10 u19 u20 u21 u22 u23 u24 u25 u26 u27 u28 u29 u30 u31 u32 u33 u34 u35 u36 u37 u38 u39 u40 u41 u42 u43 u44 u45 u46 u47 u48 u49 u50 u51 u52 u53 u54 u55 u56 u57 u58 u59 u60 : Value) (wc : World) (hcut : ∃ q A1 c1 A2 c2 A3 c3 A4 c4, q.length ≤ 16 ∧ J4 q w u4 A1 c1 A2 c2 A3 c3 A4 c4 wc) :
    Code.wp Try.prog rest4 (bodyPost Try.prog Try.f4 (PostT w)) { tmps := #[.slice A l.length c, undef, u2, .pointer (some ⟨w.heap.size, 0, none⟩), u4, u5, u6, u7, u8, u9, u10, undef, undef, undef, undef, undef, .agg #[.string ⟨#[]⟩, .slice none 0 0, .slice none 0 0, .slice none 0 0, .slice none 0 0, .int .i64 0, .int .i64 0, .int .i64 0], .slice A l.length c, .int .i64 l.length, u19, u20, u21, u22, u23, u24, u25, u26, u27, u28, u29, u30, u31, u32, u33, u34, u35, u36, u37, u38, u39, u40, u41, u42, u43, u44, u45, u46, u47, u48, u49, u50, u51, u52, u53, u54, u55, u56, u57, u58, u59, u60, undef, undef, undef, undef, undef, undef, undef, undef, undef, undef, undef, undef, undef, undef, undef, undef, undef, undef, undef, undef, undef, undef, undef, undef, undef, undef, undef, undef, undef, undef, undef, undef, undef, undef, undef, undef, undef, undef, undef, undef, undef, undef, undef, undef, undef, undef, undef, undef, undef, undef, undef, undef, undef, undef, undef, undef, undef, undef, undef, undef, undef, undef, undef, undef, undef, undef, undef, undef, undef, undef, undef, undef, undef, undef, undef, undef, undef, undef, undef, undef, undef, undef, undef, undef, undef, undef, undef, undef, undef, undef, undef, undef, undef, undef, undef, undef, undef, undef, undef, undef, undef, undef, undef, undef, undef, undef, undef, undef, undef, undef, undef, undef, undef, undef, undef, undef, undef, undef, undef, undef, undef, undef, undef, undef, undef, undef, undef], defers := [] } wc := by
  conv => arg 2; whnf
  obtain ⟨q, A1, c1, A2, c2, A3, c3, A4, c4, hq16, hJ⟩ := hcut
  obtain ⟨Aw, cw, rfl, hSw⟩ := hJ.want.reads (bytes := 64) (by omega)
  have hg0 := hJ.b.lt
  obtain ⟨b0c, b0f, _, _⟩ := hJ.b.all
  have HJ := Aside.mk hJ; have HSw := Aside.mk hSw
  have hf0 : (awayS q).flight.length = 0 := rfl
  have HF0 := Aside.mk hf0
  clear hJ hSw hf0
  go_wp2_with fail
  refine (sameMessages_any q A2 c2 Aw cw (fun b => w.heap.size < b ∧ some b ≠ (Value.slice Aw q.length cw).ownBlock) (fun b => b ≠ w.heap.size) _ HJ.out.rd.queue HSw.out).mono ?_
  rintro e w1 ⟨rfl, hb1⟩
  have D0 := Aside.mk (HJ.out.b.belowAll hb1)
  have HB1 := Aside.mk hb1
  have hlt0 := D0.out.lt
  clear b0c b0f hb1
  obtain ⟨b0c, b0f, _, _⟩ := D0.out.all
  have hn0 : ¬ (0 : Int) < ((awayS q).flight.length : Int) := by rw [HF0.out]; simp
  go_wp2_with fail
  refine (resume_any (awayS q) A1 c1 A2 c2 A3 c3 A4 c4 (fun b => w.heap.size < b ∧ some b ≠ (Value.slice Aw q.length cw).ownBlock) _ (HJ.out.rd.below HB1.out) (by rw [HF0.out]; omega)).mono ?_
  have hR := refill_young q (awayS q) 0 (by omega) rfl rfl rfl rfl (by simp [awayS, ses0])
  have hD : resumeD (awayS q) = ((refillFrom q (awayS q)).1, (refillFrom q (awayS q)).2) := by simp [resumeD, redoL, refillD, awayS, ses0]
  rintro e w2 h2
  rw [hD] at h2
  generalize refillFrom q (awayS q) = r at *
  obtain ⟨r1, r2⟩ := r
  obtain ⟨i1, i2, i3, i4, i5, i6⟩ := hR
  obtain ⟨vs, vp, rfl, ⟨B1, d1, B2, d2, B3, d3, B4, d4, rfl, hrd⟩, ⟨Bp, dp, rfl, hpk⟩, hb2⟩ := h2
  have HR1 := Aside.mk i1; have HR2 := Aside.mk i2; have HR3 := Aside.mk i3; have HR4 := Aside.mk i4; have HR5 := Aside.mk i5; have HR6 := Aside.mk i6
  have HPK := Aside.mk hpk
  have HB2 := Aside.mk (below_all HB1.out HB1.out.size hb2)
  have E2 := Aside.mk (D0.out.belowAll hb2)
  clear i1 i2 i3 i4 i5 i6 hD hrd hpk hb2 b0c b0f
  simp only [sesCells]
  obtain ⟨n, hn⟩ : ∃ n, n = min q.length 4 := ⟨_, rfl⟩
  have hne2 : ¬ w.heap.size = w2.heap.size := by have := E2.out.lt; omega
  go_upto_region 18 with fail
  go_cut [13] (fun v wx => v = .int .i64 n ∧ Blk wx w2.heap.size 27 (sesCells r1 B1 d1 B2 d2 B3 d3 B4 d4) ∧ Below w2.heap.size w2 wx)
  case first =>
    by_cases h4 : (4 : Int) < (q.length : Int)
    · have hn4 : n = 4 := by omega
      go_wp2_with fail
      go_meet
      exact ⟨by rw [hn4]; rfl, Blk.new _ _ _, (Below.refl _ _).alloc (Nat.le_refl _) _⟩
    · have hn4 : n = q.length := by omega
      have HN4 := Aside.mk hn4
      clear hn hn4
      go_wp2_with fail
      go_meet
      exact ⟨by rw [HN4.out], Blk.new _ _ _, (Below.refl _ _).alloc (Nat.le_refl _) _⟩
  case rest =>
    obtain ⟨rfl, k11, hB3⟩ := hcut
    have hn4 : n ≤ 4 := by omega
    have hnq : n ≤ q.length := by omega
    have HN := Aside.mk hn
    have k2 : r2.length = n := by have := HR1.out; simp at this; omega
    have k3 : r1.flight.length = n := by have := HR3.out; simp at this; omega
    have k5 : r1.hd = (n : Int) := by have := HR5.out; simp at this; omega
    have k6 : r1.snt = (n : Int) := by have := HR6.out; simp at this; omega
    have k4 : r1.queue.length = q.length - n := by have := HR4.out; simp at this; omega
    have hq5 : ((r1.queue.length : Int) != (q.length : Int) - (n : Int)) = false := by simp; omega
    simp only [k2]
    have K2 := Aside.mk k2; have K3 := Aside.mk k3; have K5 := Aside.mk k5; have K6 := Aside.mk k6
    clear k2 k3 k4 k5 k6 hn
    have HWB := Aside.mk (below_all (HJ.out.below.trans (HB2.out.mono (by omega))) (by have := E2.out.lt; omega) hB3)
    have HWQ := Aside.mk ((HSw.out.below HB2.out).below hB3)
    have HWP := Aside.mk (HPK.out.below hB3)
    obtain ⟨k11c, _, _, _⟩ := k11.all
    simp only [sesCells, K3.out, K5.out, K6.out] at k11c
    clear k11 hB3 E2 HB2 HPK HR1 HR3 HR4 HR5 HR6
    go_wp2_with fail
    go_loopw [115] (fun i wr => ∃ k : Nat, k ≤ n ∧ i = .int .i64 k ∧ Below wc.heap.size wc wr) (fun i _ => n - (intOf i).toNat)
    case atStart => exact ⟨0, Nat.zero_le _, rfl, Below.refl _ _⟩
    case round =>
      obtain ⟨k, hk, rfl, hB⟩ := hrel
      by_cases hlt : k < n
      · have hlt' : (k : Int) < (n : Int) := by omega
        have hltq : (k : Int) < (q.length : Int) := by omega
        have hk0 : (0 : Int) ≤ (k : Int) := by omega
        have hx : q[k]? = some q[k] := List.getElem?_eq_getElem (by omega)
        have hy := HR2.out k q[k] (by omega) hx
        obtain ⟨ad, A', c', rfl, hP, e0, e1, e2, e3, e4⟩ := msg_at (HWQ.out.below hB).2.2.2 (by omega) hx
        obtain ⟨bd, B', d', rfl, hQ, f0, f1⟩ := pkt_at (HWP.out.below hB).2.2.2 (by rw [K2.out]; exact hlt) hy
        generalize hxq : q[k] = x at hx hy hP hQ e0 e1 e2 e3 e4 f0 f1
        have HX := Aside.mk hxq; have HY := Aside.mk hy
        clear hx hxq hy
        have g1 := f1 1 _ (by decide) rfl; have g2 := f1 2 _ (by decide) rfl; have g3 := f1 3 _ (by decide) rfl; have g4 := f1 4 _ (by decide) rfl; have g5 := f1 5 _ (by decide) rfl
        have g6 := f1 6 _ (by decide) rfl; have g7 := f1 7 _ (by decide) rfl; have g8 := f1 8 _ (by decide) rfl; have g9 := f1 9 _ (by decide) rfl; have g10 := f1 10 _ (by decide) rfl
        have g11 := f1 11 _ (by decide) rfl; have g12 := f1 12 _ (by decide) rfl; have g13 := f1 13 _ (by decide) rfl; have g14 := f1 14 _ (by decide) rfl; have g15 := f1 15 _ (by decide) rfl
        have hB' : Below wr.heap.size wr (wr.alloc (.cells (pktCells (pub x ((0 + k + 1 : Nat) : Int) false) B' d').toArray 43)) := (Below.refl _ _).alloc (Nat.le_refl _) _
        have v1 := conv_Sl (hP.below hB'); have v2 := conv_Sl (hQ.below hB')
        have v1' := fun nn => conv_Sl ((hP.below hB').move (w1 := (wr.alloc (.cells (pktCells (pub x ((0 + k + 1 : Nat) : Int) false) B' d').toArray 43)).drewN nn) (fun _ _ _ => rfl)); have v2' := fun nn => conv_Sl ((hQ.below hB').move (w1 := (wr.alloc (.cells (pktCells (pub x ((0 + k + 1 : Nat) : Int) false) B' d').toArray 43)).drewN nn) (fun _ _ _ => rfl))
        have HB := Aside.mk hB
        clear f1 hP hQ hB hB' v1 v2
        have hid : ((0 + k + 1 : Nat) : Int) = (k : Int) + 1 := by omega
        dsimp only [pub, pktCells] at f0 g1 g2 g3 g4 g5 g6 g7 g8 g9 g10 g11 g12 g13 g14 g15 v1' v2'
        rw [hid] at g1
        simp only [hid] at v1' v2'
        clear hid
        have e0' := cell_alloc e0; have e1' := cell_alloc e1; have e2' := cell_alloc e2; have e3' := cell_alloc e3; have e4' := cell_alloc e4
        go_upto_region 24 with fail
        go_quiet (fail)
        go_wp2_with fail
        go_roundw
        case rel => exact ⟨k + 1, by omega, by go_num, below_drewN (below_all HB.out HB.out.size ((Below.refl _ _).alloc (Nat.le_refl _) _)) _⟩
        case measure => simp [intOf]; omega
      · have hke : k = n := by omega
        have hge : decide (k < n) = false := by simp; omega
        have HB := Aside.mk hB
        clear hB
        go_wp2_with fail
        refine (awake_any _).mono ?_
        rintro e w9 ⟨rfl, hb9⟩
        have HB9 := Aside.mk (below_all (below_all HWB.out HWB.out.size HB.out) (by have := HWB.out.size; have := HB.out.size; omega) hb9)
        clear hb9
        go_wp2_with fail
        go_ret
        exact ⟨rfl, HB9.out⟩
end Go.Proofs.Ytmeeldcgmfplnaa
