/-
  The walk of the law SessionResumes.
-/
import Derived.Test.YtmeeldcgmfplnaaW29
import Derived.Test.YtmeeldcgmfplnaaW17
import Derived.Deep.QuietTactic
import Derived.BigQuiet
import Derived.Outline
set_option linter.unusedVariables false
set_option linter.unusedSimpArgs false
namespace Go.Proofs.Ytmeeldcgmfplnaa
open Go.RowKit Go.BigFrame
attribute [local go_sem] setRow_setCell_same setRow_setCell_other setRow_cell_same setRow_cell_other setRow_frozen setRow_shape
attribute [local go_sem ↓] Go.wp_at_zero Go.wp_at_succ

/-- In a loop: the session in the variable, its rows in new memory. -/
structure JS (s : Ses) (w : World) (A1 : Option Addr) (c1 : Nat) (A2 : Option Addr) (c2 : Nat) (A3 : Option Addr) (c3 : Nat) (A4 : Option Addr) (c4 : Nat) (wx : World) : Prop where
  b : Blk wx w.heap.size 27 (sesCells s A1 c1 A2 c2 A3 c3 A4 c4)
  rd : RdSes (fun b => w.heap.size < b) wx s A1 c1 A2 c2 A3 c3 A4 c4
  below : Below w.heap.size w wx
theorem JS.store {s s' : Ses} {w wx w1 : World} {A1 : Option Addr} {c1 : Nat} {A2 : Option Addr} {c2 : Nat} {A3 : Option Addr} {c3 : Nat} {A4 : Option Addr} {c4 : Nat} {B1 : Option Addr} {d1 : Nat} {B2 : Option Addr} {d2 : Nat} {B3 : Option Addr} {d3 : Nat} {B4 : Option Addr} {d4 : Nat}
    (h : JS s w A1 c1 A2 c2 A3 c3 A4 c4 wx) (hb : Below wx.heap.size wx w1) (hrd : RdSes (fun b => wx.heap.size ≤ b) w1 s' B1 d1 B2 d2 B3 d3 B4 d4) : JS s' w B1 d1 B2 d2 B3 d3 B4 d4 (w1.setRow w.heap.size (sesCells s' B1 d1 B2 d2 B3 d3 B4 d4)) := by
  have hlt := h.b.lt
  exact ⟨(h.b.belowAll hb).put _, (hrd.kp ((Kp.refl _ _).put (fun b hb => by omega) _)).mono (fun b hb _ => by omega), below_put (below_all h.below h.below.size hb) (Nat.le_refl _) _⟩
theorem JS.far {s : Ses} {w wx w1 : World} {A1 : Option Addr} {c1 : Nat} {A2 : Option Addr} {c2 : Nat} {A3 : Option Addr} {c3 : Nat} {A4 : Option Addr} {c4 : Nat} (h : JS s w A1 c1 A2 c2 A3 c3 A4 c4 wx) (hb : Below wx.heap.size wx w1) : JS s w A1 c1 A2 c2 A3 c3 A4 c4 w1 :=
  ⟨h.b.belowAll hb, h.rd.below hb, below_all h.below h.below.size hb⟩
noncomputable def rest8 : Code := tailN 3 ((Try.f8.body).getD .skip)
noncomputable def end8 : Code := tailN 6 ((Try.f8.body).getD .skip)

set_option maxRecDepth 100000 in
set_option maxHeartbeats 8000000 in
theorem resumes_rest (u0 u1 u2 u4 u5 u6 u7 u8 u9 u10 u11 u12 u13 u14 u15 u16 u17 u18 u19 u20 u21 u22 u23 u24 u25 u26 u27 u28 u29 u30 u31 u32 u33 u34 u35 u36 u37 u38 u39 u40 u41 u42 u43 u44 u45 u46 u47 u48 u49 u50 u51 u52 u53 u54 u55 u56 u57 u58 u59 u60 u61 u62 u63 u64 u65 u66 u67 u68 u69 u70 u71 u72 u73 u74 u75 u76 u77 u78 u79 u80 u81 u82 u83 u84 u85 u86 u87 u88 u89 u90 u91 u92 u93 u94 u95 u96 u97 u98 u99 u100 u101 u102 u103 u104 u105 u106 u107 u108 u109 u110 u111 u112 u113 u114 u115 u116 u117 u118 u119 u120 u121 u122 u123 u124 u125 u126 u127 u128 u129 u130 u131 u132 u133 u134 u135 u136 u137 u138 u139 u140 u141 u142 u143 u144 u145 u146 u147 u148 u149 u150 u151 u152 u153 u154 u155 u156 u157 u158 u159 u160 u161 u162 u163 u164 u165 : Value) (wc : World) (s : Ses) (A1 : Option Addr) (c1 : Nat) (A2 : Option Addr) (c2 : Nat) (A3 : Option Addr) (c3 : Nat) (A4 : Option Addr) (c4 : Nat) (w : World) (HI : Aside (Inv s)) (HJ : Aside (JS s w A1 c1 A2 c2 A3 c3 A4 c4 wc)) :
    Code.wp Try.prog rest8 (bodyPost Try.prog Try.f8 (PostT w)) { tmps := #[u0, u1, u2, .pointer (some ⟨w.heap.size, 0, none⟩), u4, u5, u6, u7, u8, u9, u10, u11, u12, u13, u14, u15, u16, u17, u18, u19, u20, u21, u22, u23, u24, u25, u26, u27, u28, u29, u30, u31, u32, u33, u34, u35, u36, u37, u38, u39, u40, u41, u42, u43, u44, u45, u46, u47, u48, u49, u50, u51, u52, u53, u54, u55, u56, u57, u58, u59, u60, u61, u62, u63, u64, u65, u66, u67, u68, u69, u70, u71, u72, u73, u74, u75, u76, u77, u78, u79, u80, u81, u82, u83, u84, u85, u86, u87, u88, u89, u90, u91, u92, u93, u94, u95, u96, u97, u98, u99, u100, u101, u102, u103, u104, u105, u106, u107, u108, u109, u110, u111, u112, u113, u114, u115, u116, u117, u118, u119, u120, u121, u122, u123, u124, u125, u126, u127, u128, u129, u130, u131, u132, u133, u134, u135, u136, u137, u138, u139, u140, u141, u142, u143, u144, u145, u146, u147, u148, u149, u150, u151, u152, u153, u154, u155, u156, u157, u158, u159, u160, u161, u162, u163, u164, u165], defers := [] } wc := by
  conv => arg 2; whnf
  have hg0 := HJ.out.b.lt
  have hfl4 := HI.out.fl
  obtain ⟨d0c, d0f, _, _⟩ := HJ.out.b.all
  have HLT := Aside.mk HI.out.light
  obtain ⟨t, p, hR1, hR2, hIt, hpl, hend⟩ := resumes_plain s HI.out
  have HR1 := Aside.mk hR1; have HR2 := Aside.mk hR2; have HIt := Aside.mk hIt; have HPL := Aside.mk hpl; have HEND := Aside.mk hend
  clear hR1 hR2 hIt hpl hend
  go_wp2_with fail
  refine (light_any s A1 c1 A2 c2 A3 c3 A4 c4 _ _ HJ.out.rd).mono ?_
  rw [HLT.out]
  rintro e w1 ⟨rfl, hb1⟩
  have J1 := Aside.mk (HJ.out.far hb1)
  clear d0c d0f hb1
  obtain ⟨d0c, d0f, _, _⟩ := J1.out.b.all
  have hg1 := J1.out.b.lt
  go_wp2_with fail
  refine (resume_any s A1 c1 A2 c2 A3 c3 A4 c4 _ _ J1.out.rd (by omega)).mono ?_
  rintro e w2 h2
  rw [HR1.out] at h2
  obtain ⟨vs, vp, rfl, ⟨B1, d1, B2, d2, B3, d3, B4, d4, rfl, hrd⟩, ⟨Bp, dp, rfl, hpk⟩, hb2⟩ := h2
  dsimp only at hrd hpk
  have hplb := hpk.2.2.1
  have J2 := Aside.mk ((J1.out.far hb2).far ((Below.refl w2.heap.size w2).alloc (Nat.le_refl _) (.cells (sesCells t B1 d1 B2 d2 B3 d3 B4 d4) 27)))
  have RT := Aside.mk (hrd.below ((Below.refl w2.heap.size w2).alloc (Nat.le_refl _) (.cells (sesCells t B1 d1 B2 d2 B3 d3 B4 d4) 27)))
  have DT := Aside.mk (Blk.new w2 27 (sesCells t B1 d1 B2 d2 B3 d3 B4 d4))
  clear d0c d0f hrd hpk hb2
  simp only [sesCells]
  go_wp2_with fail
  refine (resume_any t B1 d1 B2 d2 B3 d3 B4 d4 _ _ RT.out (by have := HIt.out.fl; omega)).mono ?_
  rintro e w3 h3
  rw [HR2.out] at h3
  obtain ⟨vs, vp, rfl, ⟨C1, e1, C2, e2, C3, e3, C4, e4, rfl, hrd⟩, ⟨Bq, dq, rfl, hpk⟩, hb3⟩ := h3
  dsimp only at hrd hpk
  rw [show (t.flight.map pkF).length = t.flight.length from List.length_map _]
  have HPK := Aside.mk hpk; have RU := Aside.mk hrd
  have J3 := Aside.mk (J2.out.far hb3)
  have DT3 := Aside.mk (DT.out.belowAll hb3)
  have RT3 := Aside.mk (RT.out.below hb3)
  clear hrd hpk hb3
  simp only [sesCells]
  go_upto_region 12 with fail
  have hst : Below w3.heap.size w3 (w3.alloc (.cells (sesCells t C1 e1 C2 e2 C3 e3 C4 e4) 27)) := (Below.refl _ _).alloc (Nat.le_refl _) _
  have J4 := Aside.mk (J3.out.far hst)
  have DT4 := Aside.mk (DT3.out.belowAll hst)
  have RT4 := Aside.mk (RT3.out.below hst)
  have RU4 := Aside.mk (RU.out.below hst)
  have DU4 := Aside.mk (Blk.new w3 27 (sesCells t C1 e1 C2 e2 C3 e3 C4 e4))
  have HPK4 := Aside.mk (HPK.out.below hst)
  clear hst
  generalize w3.alloc (.cells (sesCells t C1 e1 C2 e2 C3 e3 C4 e4) 27) = wx at *
  obtain ⟨d0c, d0f, _, _⟩ := J4.out.b.all
  obtain ⟨k1c, k1f, _, _⟩ := DT4.out.all
  obtain ⟨k2c, k2f, _, _⟩ := DU4.out.all
  have hplt : decide (p.length < s.flight.length) = false := by have := HPL.out; simp; omega
  go_wp2_with fail
  refine (sameSession_any t B1 d1 B2 d2 B3 d3 B4 d4 C1 e1 C2 e2 C3 e3 C4 e4 _ _ _ RT4.out RU4.out).mono ?_
  rintro e w5 ⟨rfl, hb5⟩
  have J5 := Aside.mk (J4.out.far hb5)
  have DT5 := Aside.mk (DT4.out.belowAll hb5)
  have RT5 := Aside.mk (RT4.out.below hb5)
  have HPKq := Aside.mk (HPK4.out.below hb5)
  clear hb5 d0c d0f k1c k1f k2c k2f hplt
  obtain ⟨k1c, k1f, _, _⟩ := DT5.out.all
  have hft := HIt.out.fl
  go_wp2_with fail
  go_loopw [95] (fun i wr => ∃ k : Nat, k ≤ t.flight.length ∧ i = .int .i64 k ∧ Below w5.heap.size w5 wr) (fun i _ => t.flight.length - (intOf i).toNat)
  case atStart => exact ⟨0, Nat.zero_le _, rfl, Below.refl _ _⟩
  case round =>
    obtain ⟨k, hk, rfl, hB2⟩ := hrel
    by_cases hlt : k < t.flight.length
    · have hlt' : (k : Int) < (t.flight.length : Int) := by omega
      have hk0 : (0 : Int) ≤ (k : Int) := by omega
      have hx : t.flight[k]? = some t.flight[k] := List.getElem?_eq_getElem hlt
      have hst := HIt.out.st _ (List.getElem_mem hlt)
      have hy : (t.flight.map pkF)[k]? = some (pkF t.flight[k]) := by rw [List.getElem?_map, hx]; rfl
      obtain ⟨ad, A', c', rfl, hP, hw, e0, e1, e2, e3, e4, e5, e6, e7⟩ := flt_at (RT5.out.below hB2).flight.2.2.2 hlt hx
      generalize t.flight[k] = x at hx hst hy hP hw e0 e1 e2 e3 e4 e5 e6 e7
      clear hx hP hw
      rcases hst with hst | hst
      · have HX := Aside.mk (show pkF x = pub x.m x.id true by unfold pkF; first | rw [if_pos hst] | rw [if_neg (by omega)])
        have h1' : (x.st == 1) = true := by simpa using hst
        rw [HX.out] at hy
        clear hst
        obtain ⟨bd, B', d', rfl, hQ, f0, f1⟩ := pkt_at (HPKq.out.below hB2).2.2.2 (by rw [List.length_map]; exact hlt) hy
        have g1 := f1 1 _ (by decide) rfl; have g2 := f1 2 _ (by decide) rfl
        dsimp only [pub, bareP] at f0 g1 g2
        have f0' := cell_alloc f0; have g1' := cell_alloc g1; have g2' := cell_alloc g2
        have HB2 := Aside.mk hB2
        clear f1 hQ hy hB2 f0 g1 g2
        go_upto_region 17 with fail
        go_quiet (fail)
        go_wp2_with fail
        go_roundw
        case rel => exact ⟨k + 1, by omega, by go_num, below_drewN (below_all HB2.out HB2.out.size ((Below.refl _ _).alloc (Nat.le_refl _) _)) _⟩
        case measure => simp [intOf]; omega
      · have HX := Aside.mk (show pkF x = bareP 6 x.id by unfold pkF; first | rw [if_pos hst] | rw [if_neg (by omega)])
        have h1' : (x.st == 1) = false := by rw [beq_eq_false_iff_ne]; omega
        rw [HX.out] at hy
        clear hst
        obtain ⟨bd, B', d', rfl, hQ, f0, f1⟩ := pkt_at (HPKq.out.below hB2).2.2.2 (by rw [List.length_map]; exact hlt) hy
        have g1 := f1 1 _ (by decide) rfl; have g2 := f1 2 _ (by decide) rfl
        dsimp only [pub, bareP] at f0 g1 g2
        have f0' := cell_alloc f0; have g1' := cell_alloc g1; have g2' := cell_alloc g2
        have HB2 := Aside.mk hB2
        clear f1 hQ hy hB2 f0 g1 g2
        go_upto_region 17 with fail
        go_quiet (fail)
        go_wp2_with fail
        go_roundw
        case rel => exact ⟨k + 1, by omega, by go_num, below_drewN (below_all HB2.out HB2.out.size ((Below.refl _ _).alloc (Nat.le_refl _) _)) _⟩
        case measure => simp [intOf]; omega
    · have hge : decide (k < t.flight.length) = false := by simp; omega
      have f0 := DT5.out.belowAll hB2
      have HBr := Aside.mk (below_all J5.out.below J5.out.below.size hB2)
      obtain ⟨f0c, f0f, _, _⟩ := f0.all
      clear hB2 f0 k1c k1f
      by_cases hq : t.queue.length = 0
      · have hq0 : ((t.queue.length : Int) == 0) = true := by rw [hq]; rfl
        clear hq
        go_wp2_with fail
        refine (awake_any _).mono ?_
        rintro e w9 ⟨rfl, hb9⟩
        have HB9 := Aside.mk (below_all HBr.out HBr.out.size hb9)
        clear hb9
        go_wp2_with fail
        go_ret
        exact ⟨by simp, HB9.out⟩
      · have hq0 : ((t.queue.length : Int) == 0) = false := by rw [beq_eq_false_iff_ne]; omega
        have hf4 : ((t.flight.length : Int) == 4) = true := by rcases HEND.out with h | h; exact absurd h hq; rw [h]; rfl
        clear hq
        go_wp2_with fail
        refine (awake_any _).mono ?_
        rintro e w9 ⟨rfl, hb9⟩
        have HB9 := Aside.mk (below_all HBr.out HBr.out.size hb9)
        clear hb9
        go_wp2_with fail
        go_ret
        exact ⟨by simp, HB9.out⟩

end Go.Proofs.Ytmeeldcgmfplnaa
