/-
  The walk of the law SessionOnce.
-/
import Derived.Test.YtmeeldcgmfplnaaW27
import Derived.Outline
set_option linter.unusedVariables false
set_option linter.unusedSimpArgs false
namespace Go.Proofs.Ytmeeldcgmfplnaa
open Go.RowKit Go.BigFrame
attribute [local go_sem] setRow_setCell_same setRow_setCell_other setRow_cell_same setRow_cell_other setRow_frozen setRow_shape
attribute [local go_sem ↓] Go.wp_at_zero Go.wp_at_succ

noncomputable def rest9 : Code := tailN 3 ((Try.f9.body).getD .skip)

set_option maxRecDepth 100000 in
set_option maxHeartbeats 8000000 in
theorem once_low (u0 u2 u3 u4 u6 u7 u8 u9 u10 u11 u12 u13 u14 u15 u16 u17 u18 u19 u20 u21 u22 u23 u24 u25 u26 u27 u28 u29 u30 u31 u32 u33 u34 u35 u36 u37 u38 u39 u40 u41 u42 u43 u44 u45 u46 u47 u48 u49 u50 u51 u52 u53 u54 u55 u56 u57 u58 u59 u60 u61 u62 u63 u64 u65 u66 u67 u68 u69 u70 u71 u72 u73 u74 u75 u76 u77 u78 u79 u80 u81 u82 u83 u84 u85 u86 u87 u88 u89 u90 u91 u92 u93 u94 u95 u96 u97 u98 u99 u100 u101 u102 u103 u104 u105 u106 u107 u108 u109 u110 u111 u112 u113 u114 u115 u116 u117 u118 u119 u120 u121 u122 u123 u124 u125 u126 u127 u128 u129 u130 u131 u132 u133 u134 u135 u136 u137 u138 u139 u140 u141 : Value) (wc : World) (l : List Int) (A1 : Option Addr) (c1 : Nat) (A2 : Option Addr) (c2 : Nat) (A3 : Option Addr) (c3 : Nat) (A4 : Option Addr) (c4 : Nat) (id : Int) (w : World) (HRD : Aside (RdSes (fun b => w.heap.size < b) wc (idsS l) A1 c1 A2 c2 A3 c3 A4 c4)) (HL : Aside (l.length ≤ 40)) (HI : Aside (id ∉ l)) (hb : Blk wc w.heap.size 27 (sesCells (idsS l) A1 c1 A2 c2 A3 c3 A4 c4)) (hB : Below w.heap.size w wc) (hi : id < 1) :
    Code.wp Try.prog rest9 (bodyPost Try.prog Try.f9 (PostT w)) { tmps := #[u0, .int .i64 id, u2, u3, u4, .pointer (some ⟨w.heap.size, 0, none⟩), u6, u7, u8, u9, u10, u11, u12, u13, u14, u15, u16, u17, u18, u19, u20, u21, u22, u23, u24, u25, u26, u27, u28, u29, u30, u31, u32, u33, u34, u35, u36, u37, u38, u39, u40, u41, u42, u43, u44, u45, u46, u47, u48, u49, u50, u51, u52, u53, u54, u55, u56, u57, u58, u59, u60, u61, u62, u63, u64, u65, u66, u67, u68, u69, u70, u71, u72, u73, u74, u75, u76, u77, u78, u79, u80, u81, u82, u83, u84, u85, u86, u87, u88, u89, u90, u91, u92, u93, u94, u95, u96, u97, u98, u99, u100, u101, u102, u103, u104, u105, u106, u107, u108, u109, u110, u111, u112, u113, u114, u115, u116, u117, u118, u119, u120, u121, u122, u123, u124, u125, u126, u127, u128, u129, u130, u131, u132, u133, u134, u135, u136, u137, u138, u139, u140, u141], defers := [] } wc := by
  conv => arg 2; whnf
  have HB := Aside.mk (hB.alloc hB.size (.cells (sesCells (idsS l) A1 c1 A2 c2 A3 c3 A4 c4) 27))
  have D5 := Aside.mk (hb.alloc (.cells (sesCells (idsS l) A1 c1 A2 c2 A3 c3 A4 c4) 27))
  have HRW := Aside.mk (HRD.out.below ((Below.refl wc.heap.size wc).alloc (Nat.le_refl _) (.cells (sesCells (idsS l) A1 c1 A2 c2 A3 c3 A4 c4) 27)))
  have HT := Aside.mk (once_bad l id (.inl hi))
  have hg0 := hb.lt
  have hne0 : ¬ w.heap.size = wc.heap.size := by omega
  obtain ⟨d0c, d0f, _, _⟩ := hb.all
  clear hb hB
  go_wp2_with fail
  refine (take_any (idsS l) A1 c1 A2 c2 A3 c3 A4 c4 id _ _ HRW.out (Nat.zero_le _)).mono ?_
  rintro e w1 h1
  rw [HT.out] at h1
  obtain ⟨vs, rfl, ⟨B1, d1, B2, d2, B3, d3, B4, d4, rfl, hrd⟩, hb1⟩ := h1
  have HB1 := Aside.mk ((below_all HB.out HB.out.size hb1))
  have HB2 := Aside.mk (HB1.out.alloc HB1.out.size (.cells (sesCells (idsS l) B1 d1 B2 d2 B3 d3 B4 d4) 27))
  clear d0c d0f hrd hb1
  dsimp only
  simp only [sesCells]
  go_wp2_with fail
  refine (awake_any _).mono ?_
  rintro e w6 ⟨rfl, hb6⟩
  have HB6 := Aside.mk (below_all HB2.out HB2.out.size hb6)
  clear hb6
  go_wp2_with fail
  go_ret
  exact ⟨by simp, HB6.out⟩

set_option maxRecDepth 100000 in
set_option maxHeartbeats 8000000 in
theorem once_high (u0 u2 u3 u4 u6 u7 u8 u9 u10 u11 u12 u13 u14 u15 u16 u17 u18 u19 u20 u21 u22 u23 u24 u25 u26 u27 u28 u29 u30 u31 u32 u33 u34 u35 u36 u37 u38 u39 u40 u41 u42 u43 u44 u45 u46 u47 u48 u49 u50 u51 u52 u53 u54 u55 u56 u57 u58 u59 u60 u61 u62 u63 u64 u65 u66 u67 u68 u69 u70 u71 u72 u73 u74 u75 u76 u77 u78 u79 u80 u81 u82 u83 u84 u85 u86 u87 u88 u89 u90 u91 u92 u93 u94 u95 u96 u97 u98 u99 u100 u101 u102 u103 u104 u105 u106 u107 u108 u109 u110 u111 u112 u113 u114 u115 u116 u117 u118 u119 u120 u121 u122 u123 u124 u125 u126 u127 u128 u129 u130 u131 u132 u133 u134 u135 u136 u137 u138 u139 u140 u141 : Value) (wc : World) (l : List Int) (A1 : Option Addr) (c1 : Nat) (A2 : Option Addr) (c2 : Nat) (A3 : Option Addr) (c3 : Nat) (A4 : Option Addr) (c4 : Nat) (id : Int) (w : World) (HRD : Aside (RdSes (fun b => w.heap.size < b) wc (idsS l) A1 c1 A2 c2 A3 c3 A4 c4)) (HL : Aside (l.length ≤ 40)) (HI : Aside (id ∉ l)) (hb : Blk wc w.heap.size 27 (sesCells (idsS l) A1 c1 A2 c2 A3 c3 A4 c4)) (hB : Below w.heap.size w wc) (hi1 : 1 ≤ id) (hi : 65535 < id) :
    Code.wp Try.prog rest9 (bodyPost Try.prog Try.f9 (PostT w)) { tmps := #[u0, .int .i64 id, u2, u3, u4, .pointer (some ⟨w.heap.size, 0, none⟩), u6, u7, u8, u9, u10, u11, u12, u13, u14, u15, u16, u17, u18, u19, u20, u21, u22, u23, u24, u25, u26, u27, u28, u29, u30, u31, u32, u33, u34, u35, u36, u37, u38, u39, u40, u41, u42, u43, u44, u45, u46, u47, u48, u49, u50, u51, u52, u53, u54, u55, u56, u57, u58, u59, u60, u61, u62, u63, u64, u65, u66, u67, u68, u69, u70, u71, u72, u73, u74, u75, u76, u77, u78, u79, u80, u81, u82, u83, u84, u85, u86, u87, u88, u89, u90, u91, u92, u93, u94, u95, u96, u97, u98, u99, u100, u101, u102, u103, u104, u105, u106, u107, u108, u109, u110, u111, u112, u113, u114, u115, u116, u117, u118, u119, u120, u121, u122, u123, u124, u125, u126, u127, u128, u129, u130, u131, u132, u133, u134, u135, u136, u137, u138, u139, u140, u141], defers := [] } wc := by
  conv => arg 2; whnf
  have HB := Aside.mk (hB.alloc hB.size (.cells (sesCells (idsS l) A1 c1 A2 c2 A3 c3 A4 c4) 27))
  have D5 := Aside.mk (hb.alloc (.cells (sesCells (idsS l) A1 c1 A2 c2 A3 c3 A4 c4) 27))
  have HRW := Aside.mk (HRD.out.below ((Below.refl wc.heap.size wc).alloc (Nat.le_refl _) (.cells (sesCells (idsS l) A1 c1 A2 c2 A3 c3 A4 c4) 27)))
  have HT := Aside.mk (once_bad l id (.inr hi))
  have hg0 := hb.lt
  have hne0 : ¬ w.heap.size = wc.heap.size := by omega
  obtain ⟨d0c, d0f, _, _⟩ := hb.all
  clear hb hB
  go_wp2_with fail
  refine (take_any (idsS l) A1 c1 A2 c2 A3 c3 A4 c4 id _ _ HRW.out (Nat.zero_le _)).mono ?_
  rintro e w1 h1
  rw [HT.out] at h1
  obtain ⟨vs, rfl, ⟨B1, d1, B2, d2, B3, d3, B4, d4, rfl, hrd⟩, hb1⟩ := h1
  have HB1 := Aside.mk ((below_all HB.out HB.out.size hb1))
  have HB2 := Aside.mk (HB1.out.alloc HB1.out.size (.cells (sesCells (idsS l) B1 d1 B2 d2 B3 d3 B4 d4) 27))
  clear d0c d0f hrd hb1
  dsimp only
  simp only [sesCells]
  go_wp2_with fail
  refine (awake_any _).mono ?_
  rintro e w6 ⟨rfl, hb6⟩
  have HB6 := Aside.mk (below_all HB2.out HB2.out.size hb6)
  clear hb6
  go_wp2_with fail
  go_ret
  exact ⟨by simp, HB6.out⟩

set_option maxRecDepth 100000 in
set_option maxHeartbeats 8000000 in
theorem once_good (u0 u2 u3 u4 u6 u7 u8 u9 u10 u11 u12 u13 u14 u15 u16 u17 u18 u19 u20 u21 u22 u23 u24 u25 u26 u27 u28 u29 u30 u31 u32 u33 u34 u35 u36 u37 u38 u39 u40 u41 u42 u43 u44 u45 u46 u47 u48 u49 u50 u51 u52 u53 u54 u55 u56 u57 u58 u59 u60 u61 u62 u63 u64 u65 u66 u67 u68 u69 u70 u71 u72 u73 u74 u75 u76 u77 u78 u79 u80 u81 u82 u83 u84 u85 u86 u87 u88 u89 u90 u91 u92 u93 u94 u95 u96 u97 u98 u99 u100 u101 u102 u103 u104 u105 u106 u107 u108 u109 u110 u111 u112 u113 u114 u115 u116 u117 u118 u119 u120 u121 u122 u123 u124 u125 u126 u127 u128 u129 u130 u131 u132 u133 u134 u135 u136 u137 u138 u139 u140 u141 : Value) (wc : World) (l : List Int) (A1 : Option Addr) (c1 : Nat) (A2 : Option Addr) (c2 : Nat) (A3 : Option Addr) (c3 : Nat) (A4 : Option Addr) (c4 : Nat) (id : Int) (w : World) (HRD : Aside (RdSes (fun b => w.heap.size < b) wc (idsS l) A1 c1 A2 c2 A3 c3 A4 c4)) (HL : Aside (l.length ≤ 40)) (HI : Aside (id ∉ l)) (hb : Blk wc w.heap.size 27 (sesCells (idsS l) A1 c1 A2 c2 A3 c3 A4 c4)) (hB : Below w.heap.size w wc) (hi1 : 1 ≤ id) (hi2 : id ≤ 65535) :
    Code.wp Try.prog rest9 (bodyPost Try.prog Try.f9 (PostT w)) { tmps := #[u0, .int .i64 id, u2, u3, u4, .pointer (some ⟨w.heap.size, 0, none⟩), u6, u7, u8, u9, u10, u11, u12, u13, u14, u15, u16, u17, u18, u19, u20, u21, u22, u23, u24, u25, u26, u27, u28, u29, u30, u31, u32, u33, u34, u35, u36, u37, u38, u39, u40, u41, u42, u43, u44, u45, u46, u47, u48, u49, u50, u51, u52, u53, u54, u55, u56, u57, u58, u59, u60, u61, u62, u63, u64, u65, u66, u67, u68, u69, u70, u71, u72, u73, u74, u75, u76, u77, u78, u79, u80, u81, u82, u83, u84, u85, u86, u87, u88, u89, u90, u91, u92, u93, u94, u95, u96, u97, u98, u99, u100, u101, u102, u103, u104, u105, u106, u107, u108, u109, u110, u111, u112, u113, u114, u115, u116, u117, u118, u119, u120, u121, u122, u123, u124, u125, u126, u127, u128, u129, u130, u131, u132, u133, u134, u135, u136, u137, u138, u139, u140, u141], defers := [] } wc := by
  conv => arg 2; whnf
  have hlw := hB.size
  have HB0 := Aside.mk (hB.alloc hB.size (.cells (sesCells (idsS l) A1 c1 A2 c2 A3 c3 A4 c4) 27))
  have R5 := Aside.mk (HRD.out.below ((Below.refl wc.heap.size wc).alloc (Nat.le_refl _) (.cells (sesCells (idsS l) A1 c1 A2 c2 A3 c3 A4 c4) 27)))
  have D8 := Aside.mk (Blk.new wc 27 (sesCells (idsS l) A1 c1 A2 c2 A3 c3 A4 c4))
  have HT1 := Aside.mk (once_new l id hi1 hi2 HL.out HI.out)
  have HT2 := Aside.mk (once_again l id hi1 hi2 (placeT l id))
  have HT3 := Aside.mk (once_free l id hi1 hi2 (placeT l id) HI.out)
  have hg0 := hb.lt
  have hne0 : ¬ w.heap.size = wc.heap.size := by omega
  obtain ⟨d0c, d0f, _, _⟩ := hb.all
  clear hb hB
  go_wp2_with fail
  refine (take_any (idsS l) A1 c1 A2 c2 A3 c3 A4 c4 id _ _ R5.out (Nat.zero_le _)).mono ?_
  rintro e w1 h1
  rw [HT1.out] at h1
  obtain ⟨vs, rfl, ⟨B1, d1, B2, d2, B3, d3, B4, d4, rfl, hrd⟩, hb1⟩ := h1
  clear d0c d0f hne0
  dsimp only at hrd
  have X1 := Aside.mk (below_all HB0.out HB0.out.size hb1)
  have HB1 := Aside.mk (X1.out.alloc X1.out.size (.cells (sesCells (idsS (insI l (placeT l id) id)) B1 d1 B2 d2 B3 d3 B4 d4) 27))
  have hst1 : (Below w1.heap.size w1 (w1.alloc (.cells (sesCells (idsS (insI l (placeT l id) id)) B1 d1 B2 d2 B3 d3 B4 d4) 27))) := (Below.refl _ _).alloc (Nat.le_refl _) _
  replace D8 := Aside.mk (((D8.out.belowAll hb1)).belowAll hst1)
  have Da := Aside.mk (Blk.new w1 27 (sesCells (idsS (insI l (placeT l id) id)) B1 d1 B2 d2 B3 d3 B4 d4))
  replace R5 := Aside.mk ((R5.out.below hb1).below hst1)
  have Ra := Aside.mk (hrd.below hst1)
  clear hrd hb1 hst1
  simp only [sesCells]
  go_wp2_with fail
  refine (take_any (idsS (insI l (placeT l id) id)) B1 d1 B2 d2 B3 d3 B4 d4 id _ _ Ra.out (Nat.zero_le _)).mono ?_
  rintro e w2 h1
  rw [HT2.out] at h1
  obtain ⟨vs, rfl, ⟨C1, e1, C2, e2, C3, e3, C4, e4, rfl, hrd⟩, hb1⟩ := h1
  dsimp only at hrd
  have X2 := Aside.mk (below_all HB1.out HB1.out.size hb1)
  have HB2 := Aside.mk (X2.out.alloc X2.out.size (.cells (sesCells (idsS (insI l (placeT l id) id)) C1 e1 C2 e2 C3 e3 C4 e4) 27))
  have hst2 : (Below w2.heap.size w2 (w2.alloc (.cells (sesCells (idsS (insI l (placeT l id) id)) C1 e1 C2 e2 C3 e3 C4 e4) 27))) := (Below.refl _ _).alloc (Nat.le_refl _) _
  replace D8 := Aside.mk (((D8.out.belowAll hb1)).belowAll hst2)
  replace Da := Aside.mk (((Da.out.belowAll hb1)).belowAll hst2)
  have Db := Aside.mk (Blk.new w2 27 (sesCells (idsS (insI l (placeT l id) id)) C1 e1 C2 e2 C3 e3 C4 e4))
  replace R5 := Aside.mk ((R5.out.below hb1).below hst2)
  replace Ra := Aside.mk ((Ra.out.below hb1).below hst2)
  have Rb := Aside.mk (hrd.below hst2)
  clear hrd hb1 hst2
  simp only [sesCells]
  go_wp2_with fail
  refine (answer_any (idsS (insI l (placeT l id) id)) C1 e1 C2 e2 C3 e3 C4 e4 6 id _ _ Rb.out (Nat.zero_le _)).mono ?_
  rintro e w3 h1
  rw [HT3.out] at h1
  obtain ⟨vs, vp, rfl, ⟨F1, f1, F2, f2, F3, f3, F4, f4, rfl, hrd⟩, ⟨Bp, dp, rfl, hpk⟩, hb1⟩ := h1
  dsimp only at hpk
  have HPK := Aside.mk hpk
  clear hpk
  dsimp only at hrd
  have X3 := Aside.mk (below_all HB2.out HB2.out.size hb1)
  have HB3 := Aside.mk (X3.out.alloc X3.out.size (.cells (sesCells (idsS l) F1 f1 F2 f2 F3 f3 F4 f4) 27))
  have hst3 : (Below w3.heap.size w3 (w3.alloc (.cells (sesCells (idsS l) F1 f1 F2 f2 F3 f3 F4 f4) 27))) := (Below.refl _ _).alloc (Nat.le_refl _) _
  replace D8 := Aside.mk (((D8.out.belowAll hb1)).belowAll hst3)
  replace Da := Aside.mk (((Da.out.belowAll hb1)).belowAll hst3)
  replace Db := Aside.mk (((Db.out.belowAll hb1)).belowAll hst3)
  have Dc := Aside.mk (Blk.new w3 27 (sesCells (idsS l) F1 f1 F2 f2 F3 f3 F4 f4))
  replace R5 := Aside.mk ((R5.out.below hb1).below hst3)
  replace Ra := Aside.mk ((Ra.out.below hb1).below hst3)
  replace Rb := Aside.mk ((Rb.out.below hb1).below hst3)
  have Rc := Aside.mk (hrd.below hst3)
  clear hrd hb1 hst3
  simp only [sesCells, List.length_singleton]
  have HP3 := Aside.mk (HPK.out.below ((Below.refl w3.heap.size w3).alloc (Nat.le_refl _) (.cells (sesCells (idsS l) F1 f1 F2 f2 F3 f3 F4 f4) 27)))
  go_wp2_with fail
  refine (take_any (idsS l) F1 f1 F2 f2 F3 f3 F4 f4 id _ _ Rc.out (Nat.zero_le _)).mono ?_
  rintro e w4 h1
  rw [HT1.out] at h1
  obtain ⟨vs, rfl, ⟨G1, g1, G2, g2, G3, g3, G4, g4, rfl, hrd⟩, hb1⟩ := h1
  have HP4 := Aside.mk ((HP3.out.below hb1).below ((Below.refl w4.heap.size w4).alloc (Nat.le_refl _) (.cells (sesCells (idsS (insI l (placeT l id) id)) G1 g1 G2 g2 G3 g3 G4 g4) 27)))
  dsimp only at hrd
  have X4 := Aside.mk (below_all HB3.out HB3.out.size hb1)
  have HB4 := Aside.mk (X4.out.alloc X4.out.size (.cells (sesCells (idsS (insI l (placeT l id) id)) G1 g1 G2 g2 G3 g3 G4 g4) 27))
  have hst4 : (Below w4.heap.size w4 (w4.alloc (.cells (sesCells (idsS (insI l (placeT l id) id)) G1 g1 G2 g2 G3 g3 G4 g4) 27))) := (Below.refl _ _).alloc (Nat.le_refl _) _
  replace D8 := Aside.mk (((D8.out.belowAll hb1)).belowAll hst4)
  replace Da := Aside.mk (((Da.out.belowAll hb1)).belowAll hst4)
  replace Db := Aside.mk (((Db.out.belowAll hb1)).belowAll hst4)
  replace Dc := Aside.mk (((Dc.out.belowAll hb1)).belowAll hst4)
  have Dd := Aside.mk (Blk.new w4 27 (sesCells (idsS (insI l (placeT l id) id)) G1 g1 G2 g2 G3 g3 G4 g4))
  replace R5 := Aside.mk ((R5.out.below hb1).below hst4)
  replace Ra := Aside.mk ((Ra.out.below hb1).below hst4)
  replace Rb := Aside.mk ((Rb.out.below hb1).below hst4)
  replace Rc := Aside.mk ((Rc.out.below hb1).below hst4)
  have Rd := Aside.mk (hrd.below hst4)
  clear hrd hb1 hst4
  simp only [sesCells]
  go_upto_region 16 with fail
  have HBx := HB4
  generalize w4.alloc (.cells (sesCells (idsS (insI l (placeT l id) id)) G1 g1 G2 g2 G3 g3 G4 g4) 27) = wx at *
  obtain ⟨k8c, k8f, _, _⟩ := D8.out.all
  obtain ⟨kac, kaf, _, _⟩ := Da.out.all
  obtain ⟨kbc, kbf, _, _⟩ := Db.out.all
  obtain ⟨kcc, kcf, _, _⟩ := Dc.out.all
  obtain ⟨kdc, kdf, _, _⟩ := Dd.out.all
  go_wp2_with fail
  refine (sameSession_any (idsS (insI l (placeT l id) id)) B1 d1 B2 d2 B3 d3 B4 d4 C1 e1 C2 e2 C3 e3 C4 e4 _ _ _ Ra.out Rb.out).mono ?_
  rintro e w5 ⟨rfl, hb5⟩
  replace HBx := Aside.mk (below_all HBx.out HBx.out.size hb5)
  replace D8 := Aside.mk (D8.out.belowAll hb5)
  replace Da := Aside.mk (Da.out.belowAll hb5)
  replace Db := Aside.mk (Db.out.belowAll hb5)
  replace Dc := Aside.mk (Dc.out.belowAll hb5)
  replace Dd := Aside.mk (Dd.out.belowAll hb5)
  replace R5 := Aside.mk (R5.out.below hb5)
  replace Ra := Aside.mk (Ra.out.below hb5)
  replace Rb := Aside.mk (Rb.out.below hb5)
  replace Rc := Aside.mk (Rc.out.below hb5)
  replace Rd := Aside.mk (Rd.out.below hb5)
  replace HP4 := Aside.mk (HP4.out.below hb5)
  clear hb5 k8c k8f kac kaf kbc kbf kcc kcf kdc kdf
  obtain ⟨k8c, k8f, _, _⟩ := D8.out.all
  obtain ⟨kac, kaf, _, _⟩ := Da.out.all
  obtain ⟨kbc, kbf, _, _⟩ := Db.out.all
  obtain ⟨kcc, kcf, _, _⟩ := Dc.out.all
  obtain ⟨kdc, kdf, _, _⟩ := Dd.out.all
  go_wp2_with fail
  refine (sameSession_any (idsS l) F1 f1 F2 f2 F3 f3 F4 f4 A1 c1 A2 c2 A3 c3 A4 c4 _ _ _ Rc.out R5.out).mono ?_
  rintro e w6 ⟨rfl, hb5⟩
  replace HBx := Aside.mk (below_all HBx.out HBx.out.size hb5)
  replace D8 := Aside.mk (D8.out.belowAll hb5)
  replace Da := Aside.mk (Da.out.belowAll hb5)
  replace Db := Aside.mk (Db.out.belowAll hb5)
  replace Dc := Aside.mk (Dc.out.belowAll hb5)
  replace Dd := Aside.mk (Dd.out.belowAll hb5)
  replace R5 := Aside.mk (R5.out.below hb5)
  replace Ra := Aside.mk (Ra.out.below hb5)
  replace Rb := Aside.mk (Rb.out.below hb5)
  replace Rc := Aside.mk (Rc.out.below hb5)
  replace Rd := Aside.mk (Rd.out.below hb5)
  replace HP4 := Aside.mk (HP4.out.below hb5)
  clear hb5 k8c k8f kac kaf kbc kbf kcc kcf kdc kdf
  obtain ⟨k8c, k8f, _, _⟩ := D8.out.all
  obtain ⟨kac, kaf, _, _⟩ := Da.out.all
  obtain ⟨kbc, kbf, _, _⟩ := Db.out.all
  obtain ⟨kcc, kcf, _, _⟩ := Dc.out.all
  obtain ⟨kdc, kdf, _, _⟩ := Dd.out.all
  go_wp2_with fail
  refine (sameSession_any (idsS (insI l (placeT l id) id)) G1 g1 G2 g2 G3 g3 G4 g4 B1 d1 B2 d2 B3 d3 B4 d4 _ _ _ Rd.out Ra.out).mono ?_
  rintro e w7 ⟨rfl, hb5⟩
  replace HBx := Aside.mk (below_all HBx.out HBx.out.size hb5)
  replace D8 := Aside.mk (D8.out.belowAll hb5)
  replace Da := Aside.mk (Da.out.belowAll hb5)
  replace Db := Aside.mk (Db.out.belowAll hb5)
  replace Dc := Aside.mk (Dc.out.belowAll hb5)
  replace Dd := Aside.mk (Dd.out.belowAll hb5)
  replace R5 := Aside.mk (R5.out.below hb5)
  replace Ra := Aside.mk (Ra.out.below hb5)
  replace Rb := Aside.mk (Rb.out.below hb5)
  replace Rc := Aside.mk (Rc.out.below hb5)
  replace Rd := Aside.mk (Rd.out.below hb5)
  replace HP4 := Aside.mk (HP4.out.below hb5)
  clear hb5 k8c k8f kac kaf kbc kbf kcc kcf kdc kdf
  obtain ⟨k8c, k8f, _, _⟩ := D8.out.all
  obtain ⟨kac, kaf, _, _⟩ := Da.out.all
  obtain ⟨kbc, kbf, _, _⟩ := Db.out.all
  obtain ⟨kcc, kcf, _, _⟩ := Dc.out.all
  obtain ⟨kdc, kdf, _, _⟩ := Dd.out.all
  obtain ⟨ad, A', c', hA, hP, e0, eh⟩ := pkt_at HP4.out.2.2.2 (i := 0) (by simp) (x := bareP 7 id) rfl
  subst hA
  have e1 := eh 1 _ (by decide) rfl
  have e0' : w7.cell? ad = some (.int .i64 7) := by simpa [Addr.add, bareP] using e0
  have e1' : w7.cell? ⟨ad.block, ad.off + 1, none⟩ = some (.int .i64 id) := by simpa [Addr.add, bareP] using e1
  clear e0 e1 eh hP
  go_wp2_with fail
  refine (awake_any _).mono ?_
  rintro e w9 ⟨rfl, hb9⟩
  have HB9 := Aside.mk (below_all HBx.out HBx.out.size hb9)
  clear hb9
  go_wp2_with fail
  go_ret
  exact ⟨by simp, HB9.out⟩

/-- In the loop: the session, in new memory. -/
structure J9 (l : List Int) (w : World) (A1 : Option Addr) (c1 : Nat) (A2 : Option Addr) (c2 : Nat) (A3 : Option Addr) (c3 : Nat) (A4 : Option Addr) (c4 : Nat) (wx : World) : Prop where
  b : Blk wx w.heap.size 27 (sesCells (idsS l) A1 c1 A2 c2 A3 c3 A4 c4)
  rd : RdSes (fun b => w.heap.size < b) wx (idsS l) A1 c1 A2 c2 A3 c3 A4 c4
  below : Below w.heap.size w wx

set_option maxRecDepth 100000 in
set_option maxHeartbeats 8000000 in
theorem once_any (ids : List Int) (A : Option Addr) (c : Nat) (id : Int) (ok : Nat → Prop) (w : World) (h : Sl 8 kI64 ok w A c ids) :
    Calls Try.prog 9 #[.slice A ids.length c, .int .i64 id] w (PostT w) := by
  have hl : ids.length ≤ 140737488355328 := by have := h.2.2.1; omega
  have H := Aside.mk (h.mono (ok' := fun b => b < w.heap.size) (fun b _ hlt => hlt))
  clear h
  go_enter Try.func9, Try.ntmps9
  go_upto_block 0 with (fail)
  go_cut [] (fun wx => ∃ l A1 c1 A2 c2 A3 c3 A4 c4, l.length ≤ 40 ∧ id ∉ l ∧ J9 l w A1 c1 A2 c2 A3 c3 A4 c4 wx)
  case first =>
    go_wp2_with fail
    go_loopw [26] (fun i wr => ∃ (k : Nat) (l : List Int) (A1 : Option Addr) (c1 : Nat) (A2 : Option Addr) (c2 : Nat) (A3 : Option Addr) (c3 : Nat) (A4 : Option Addr) (c4 : Nat), k ≤ ids.length ∧ i = .int .i64 k ∧ Aside (l.length ≤ k ∧ l.length ≤ 40) ∧ Aside (id ∉ l) ∧ J9 l w A1 c1 A2 c2 A3 c3 A4 c4 wr) (fun i _ => ids.length - (intOf i).toNat)
    case atStart => exact ⟨0, [], none, 0, none, 0, none, 0, none, 0, Nat.zero_le _, rfl, ⟨by simp⟩, ⟨by simp⟩, ⟨Blk.new _ _ _, ses0_rd _ _, (Below.refl _ _).alloc (Nat.le_refl _) _⟩⟩
    case round =>
      obtain ⟨k, l, A1, c1, A2, c2, A3, c3, A4, c4, hk, rfl, HL, HI, hJ⟩ := hrel
      have HJ := Aside.mk hJ
      have hg0 := hJ.b.lt
      obtain ⟨b0c, b0f, b0s, b0h⟩ := hJ.b.all
      by_cases hlt : k < ids.length
      · have hlt' : (k : Int) < (ids.length : Int) := by omega
        have hk0 : (0 : Int) ≤ (k : Int) := by omega
        have hx : ids[k]? = some ids[k] := List.getElem?_eq_getElem hlt
        obtain ⟨ad, hA, e0⟩ := int_at (H.out.below hJ.below).2.2.2 hlt hx
        generalize ids[k] = x at hx e0
        subst hA
        clear hx hJ
        by_cases h40 : (k : Int) < 40
        · by_cases hx : x = id
          · have hxb : (x != id) = false := by simpa using hx
            clear hx
            go_wp2_with fail
            go_roundw
            case rel => exact ⟨k + 1, l, A1, c1, A2, c2, A3, c3, A4, c4, by omega, by go_num, ⟨by have := HL.out; omega⟩, HI, HJ.out⟩
            case measure => simp [intOf]; omega
          · have hxb : (x != id) = true := by simpa using hx
            obtain ⟨l', a, b, hT, hl', hi'⟩ := once_step l id x k hx HL.out.1 HI.out
            have HT := Aside.mk hT; have HL' := Aside.mk hl'; have HI' := Aside.mk hi'
            clear hT hl' hi' hx
            go_wp2_with fail
            refine (take_any (idsS l) A1 c1 A2 c2 A3 c3 A4 c4 x _ _ HJ.out.rd (Nat.zero_le _)).mono ?_
            rintro e w1 h1
            rw [HT.out] at h1
            obtain ⟨vs, rfl, ⟨B1, d1, B2, d2, B3, d3, B4, d4, rfl, hrd⟩, hb1⟩ := h1
            have e1 := HJ.out.b.belowAll hb1
            have HN := Aside.mk (show J9 l' w B1 d1 B2 d2 B3 d3 B4 d4 (w1.setRow w.heap.size (sesCells (idsS l') B1 d1 B2 d2 B3 d3 B4 d4)) from
              ⟨e1.put _, (hrd.kp ((Kp.refl _ _).put (fun b hb => by omega) _)).mono (fun b hb _ => by omega), below_put (below_all HJ.out.below HJ.out.below.size hb1) (Nat.le_refl _) _⟩)
            clear b0c b0f b0s b0h hrd hb1 e0
            obtain ⟨b0c, b0f, b0s, b0h⟩ := e1.all
            clear e1
            dsimp only
            simp only [sesCells]
            go_wp2_with fail
            go_roundw
            case rel => exact ⟨k + 1, l', B1, d1, B2, d2, B3, d3, B4, d4, by omega, by go_num, ⟨by have := HL'.out; omega⟩, HI', HN.out⟩
            case measure => simp [intOf]; omega
        · have h40' : (40 : Int) ≤ (k : Int) := by omega
          go_wp2_with fail
          go_roundw
          case rel => exact ⟨k + 1, l, A1, c1, A2, c2, A3, c3, A4, c4, by omega, by go_num, ⟨by have := HL.out; omega⟩, HI, HJ.out⟩
          case measure => simp [intOf]; omega
      · have hge : decide (k < ids.length) = false := by simp; omega
        clear hJ
        go_wp2_with fail
        go_meet
        exact ⟨l, A1, c1, A2, c2, A3, c3, A4, c4, HL.out.2, HI.out, HJ.out⟩
  case rest =>
    rename_i K hK
    obtain ⟨l, A1, c1, A2, c2, A3, c3, A4, c4, h1, h2, hJ⟩ := hcut
    by_cases hlo : id < 1
    · exact hK _ _ (once_low _ _ _ _ _ _ _ _ _ _ _ _ _ _ _ _ _ _ _ _ _ _ _ _ _ _ _ _ _ _ _ _ _ _ _ _ _ _ _ _ _ _ _ _ _ _ _ _ _ _ _ _ _ _ _ _ _ _ _ _ _ _ _ _ _ _ _ _ _ _ _ _ _ _ _ _ _ _ _ _ _ _ _ _ _ _ _ _ _ _ _ _ _ _ _ _ _ _ _ _ _ _ _ _ _ _ _ _ _ _ _ _ _ _ _ _ _ _ _ _ _ _ _ _ _ _ _ _ _ _ _ _ _ _ _ _ _ _ _ _ _ l A1 c1 A2 c2 A3 c3 A4 c4 id w ⟨hJ.rd⟩ ⟨h1⟩ ⟨h2⟩ hJ.b hJ.below hlo)
    · by_cases hhi : 65535 < id
      · exact hK _ _ (once_high _ _ _ _ _ _ _ _ _ _ _ _ _ _ _ _ _ _ _ _ _ _ _ _ _ _ _ _ _ _ _ _ _ _ _ _ _ _ _ _ _ _ _ _ _ _ _ _ _ _ _ _ _ _ _ _ _ _ _ _ _ _ _ _ _ _ _ _ _ _ _ _ _ _ _ _ _ _ _ _ _ _ _ _ _ _ _ _ _ _ _ _ _ _ _ _ _ _ _ _ _ _ _ _ _ _ _ _ _ _ _ _ _ _ _ _ _ _ _ _ _ _ _ _ _ _ _ _ _ _ _ _ _ _ _ _ _ _ _ _ _ l A1 c1 A2 c2 A3 c3 A4 c4 id w ⟨hJ.rd⟩ ⟨h1⟩ ⟨h2⟩ hJ.b hJ.below (by omega) hhi)
      · exact hK _ _ (once_good _ _ _ _ _ _ _ _ _ _ _ _ _ _ _ _ _ _ _ _ _ _ _ _ _ _ _ _ _ _ _ _ _ _ _ _ _ _ _ _ _ _ _ _ _ _ _ _ _ _ _ _ _ _ _ _ _ _ _ _ _ _ _ _ _ _ _ _ _ _ _ _ _ _ _ _ _ _ _ _ _ _ _ _ _ _ _ _ _ _ _ _ _ _ _ _ _ _ _ _ _ _ _ _ _ _ _ _ _ _ _ _ _ _ _ _ _ _ _ _ _ _ _ _ _ _ _ _ _ _ _ _ _ _ _ _ _ _ _ _ _ l A1 c1 A2 c2 A3 c3 A4 c4 id w ⟨hJ.rd⟩ ⟨h1⟩ ⟨h2⟩ hJ.b hJ.below (by omega) (by omega))
end Go.Proofs.Ytmeeldcgmfplnaa
