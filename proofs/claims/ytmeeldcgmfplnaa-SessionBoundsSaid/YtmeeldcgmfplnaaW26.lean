/-
  The walk of the law SessionQuiet.
-/
import Derived.Test.YtmeeldcgmfplnaaW25
import Derived.Test.YtmeeldcgmfplnaaW17
set_option linter.unusedVariables false
set_option linter.unusedSimpArgs false
namespace Go.Proofs.Ytmeeldcgmfplnaa
open Go.RowKit Go.BigFrame
attribute [local go_sem] setRow_setCell_same setRow_setCell_other setRow_cell_same setRow_cell_other setRow_frozen setRow_shape
attribute [local go_sem ↓] Go.wp_at_zero Go.wp_at_succ

theorem cell_spot {w : World} {a : Addr} {u : Value} (h : w.cell? a = some u) : a.spot = none := by
  unfold World.cell? at h
  split at h
  · split at h
    · cases h
    · rename_i h2
      cases hs : a.spot with
      | none => rfl
      | some x => rw [hs] at h2; exact absurd rfl h2
  · cases h
noncomputable def rest6 : Code := tailN 2 ((Try.f6.body).getD .skip)
noncomputable def end6 : Code := tailN 3 ((Try.f6.body).getD .skip)

set_option maxRecDepth 100000 in
set_option maxHeartbeats 8000000 in
theorem quiet_end (u3 u4 u5 u6 u7 u8 u9 u10 u11 u12 u13 u14 u15 u16 u17 u18 u19 u20 u21 u22 u23 u24 u25 u26 u27 u28 u29 u30 u31 u32 u33 u34 u35 u36 u37 u38 u39 u40 u41 u42 u43 u44 u45 u46 u47 u48 u49 u50 u51 u52 u53 u54 u55 u56 u57 u58 u59 u60 u61 u62 u63 u64 u65 u66 u67 u68 u69 u70 u71 u72 u73 u74 u75 u76 u77 u78 u79 u80 u81 u82 u83 u84 u85 u86 u87 u88 u89 u90 u91 u92 u93 u94 u95 u96 u97 u98 u99 u100 u101 u102 u103 u104 u105 u106 u107 u108 u109 u110 u111 u112 u113 u114 : Value) (wc : World) (s : Ses) (A1 : Option Addr) (c1 : Nat) (A2 : Option Addr) (c2 : Nat) (A3 : Option Addr) (c3 : Nat) (A4 : Option Addr) (c4 : Nat) (id : Int) (w : World) (H : Aside (RdSes (fun b => b < w.heap.size) w s A1 c1 A2 c2 A3 c3 A4 c4)) (hi1 : 1 ≤ id) (hi2 : id ≤ 65535) (HON : Aside (onB s.flight id = false)) (HFL : Aside (s.flight.length ≤ 60)) (hb : Blk wc w.heap.size 27 (sesCells s A1 c1 A2 c2 A3 c3 A4 c4)) (hB : Below w.heap.size w wc) :
    Code.wp Try.prog end6 (bodyPost Try.prog Try.f6 (PostT w)) { tmps := #[.agg #[.string s.cl, .slice A1 s.subs.length c1, .slice A2 s.queue.length c2, .slice A3 s.flight.length c3, .slice A4 s.ids.length c4, .int .i64 s.nid, .int .i64 s.hd, .int .i64 s.snt], .int .i64 id, .pointer (some ⟨w.heap.size, 0, none⟩), u3, u4, u5, u6, u7, u8, u9, u10, u11, u12, u13, u14, u15, u16, u17, u18, u19, u20, u21, u22, u23, u24, u25, u26, u27, u28, u29, u30, u31, u32, u33, u34, u35, u36, u37, u38, u39, u40, u41, u42, u43, u44, u45, u46, u47, u48, u49, u50, u51, u52, u53, u54, u55, u56, u57, u58, u59, u60, u61, u62, u63, u64, u65, u66, u67, u68, u69, u70, u71, u72, u73, u74, u75, u76, u77, u78, u79, u80, u81, u82, u83, u84, u85, u86, u87, u88, u89, u90, u91, u92, u93, u94, u95, u96, u97, u98, u99, u100, u101, u102, u103, u104, u105, u106, u107, u108, u109, u110, u111, u112, u113, u114], defers := [] } wc := by
  conv => arg 2; whnf
  have HB := Aside.mk hB
  have hg0 := hb.lt
  obtain ⟨d0c, d0f, _, _⟩ := hb.all
  have HQ := Aside.mk (quiet_pubrel s id hi1 hi2)
  have D0 := Aside.mk hb
  clear hb hB
  go_wp2_with fail
  refine (answer_any s A1 c1 A2 c2 A3 c3 A4 c4 6 id (fun b => b < w.heap.size) _ (H.out.below HB.out) (by have := HFL.out; omega)).mono ?_
  rintro e w1 h1
  rw [HQ.out] at h1
  obtain ⟨vs, vp, rfl, ⟨B1, d1, B2, d2, B3, d3, B4, d4, rfl, hrd⟩, ⟨Bp, dp, rfl, hpk⟩, hb1⟩ := h1
  dsimp only at hrd hpk
  have hlen : (freeS s id).ids.length ≤ 140737488355328 := by have := hrd.ids.2.2.1; omega
  have HRD := Aside.mk hrd; have HPK := Aside.mk hpk
  have HB1 := Aside.mk (below_all HB.out HB.out.size hb1)
  have D1 := Aside.mk (D0.out.belowAll hb1)
  have hlt0 := D1.out.lt
  have hne0 : ¬ w.heap.size = w1.heap.size := by omega
  clear d0c d0f hrd hpk hb1
  simp only [sesCells, List.length_singleton]
  go_wp2_with fail
  have HRDw := Aside.mk (HRD.out.below ((Below.refl w1.heap.size w1).alloc (Nat.le_refl _) (.cells (sesCells (freeS s id) B1 d1 B2 d2 B3 d3 B4 d4) 27)))
  have HPKw := Aside.mk (HPK.out.below ((Below.refl w1.heap.size w1).alloc (Nat.le_refl _) (.cells (sesCells (freeS s id) B1 d1 B2 d2 B3 d3 B4 d4) 27)))
  have D0w := Aside.mk (D1.out.alloc (.cells (sesCells (freeS s id) B1 d1 B2 d2 B3 d3 B4 d4) 27))
  have D1w := Aside.mk (Blk.new w1 27 (sesCells (freeS s id) B1 d1 B2 d2 B3 d3 B4 d4))
  have HBw := Aside.mk (HB1.out.alloc HB1.out.size (.cells (sesCells (freeS s id) B1 d1 B2 d2 B3 d3 B4 d4) 27))
  go_loopw [86] (fun i wr => ∃ k : Nat, k ≤ (freeS s id).ids.length ∧ i = .int .i64 k ∧ Below (w1.alloc (.cells (sesCells (freeS s id) B1 d1 B2 d2 B3 d3 B4 d4) 27)).heap.size (w1.alloc (.cells (sesCells (freeS s id) B1 d1 B2 d2 B3 d3 B4 d4) 27)) wr) (fun i _ => (freeS s id).ids.length - (intOf i).toNat)
  case atStart => exact ⟨0, Nat.zero_le _, rfl, Below.refl _ _⟩
  case round =>
    obtain ⟨k, hk, rfl, hB2⟩ := hrel
    by_cases hlt : k < (freeS s id).ids.length
    · have hlt' : (k : Int) < ((freeS s id).ids.length : Int) := by omega
      have hk0 : (0 : Int) ≤ (k : Int) := by omega
      have hx : (freeS s id).ids[k]? = some (freeS s id).ids[k] := List.getElem?_eq_getElem hlt
      obtain ⟨ad, hA, e0⟩ := int_at (HRDw.out.below hB2).ids.2.2.2 hlt hx
      have hne : ((freeS s id).ids[k] == id) = false := by
        have hm : (freeS s id).ids[k] ∈ s.ids.filter (fun x => !(x == id)) := List.getElem_mem hlt
        have := (List.mem_filter.1 hm).2
        simpa using this
      generalize (freeS s id).ids[k] = x at hx e0 hne
      subst hA
      have HB2 := Aside.mk hB2
      clear hx hB2
      go_wp2_with fail
      go_roundw
      case rel => exact ⟨k + 1, by omega, by go_num, HB2.out⟩
      case measure => simp [intOf]; omega
    · have hge : decide (k < (freeS s id).ids.length) = false := by simp; omega
      have f0 := D0w.out.belowAll hB2
      have f1 := D1w.out.belowAll hB2
      obtain ⟨f0c, f0f, _, _⟩ := f0.all
      obtain ⟨f1c, f1f, f1s, f1h⟩ := f1.all
      obtain ⟨ad, A', c', hA, hP, e0, eh⟩ := pkt_at (HPKw.out.below hB2).2.2.2 (i := 0) (by simp) (x := bareP 7 id) rfl
      subst hA
      have e1 := eh 1 _ (by decide) rfl
      have e0' : wr.cell? ad = some (.int .i64 7) := by simpa [Addr.add, bareP] using e0
      have e1' : wr.cell? ⟨ad.block, ad.off + 1, none⟩ = some (.int .i64 id) := by simpa [Addr.add, bareP] using e1
      obtain ⟨gp, op, sp⟩ := ad
      have hsp := cell_spot e0'
      simp only at hsp
      subst hsp
      have hneb : ¬ gp = w1.heap.size := fun e => by
        have hp1 := HPK.out.2.2.2.2 (by simp)
        obtain ⟨ad2, cs2, e2, ho2, hr2, hc2⟩ := hp1
        injection e2 with e2
        subst e2
        have h3 := World.block_lt_of_cell? w1 _ (hc2 0 _ (List.getElem?_eq_getElem (by rw [hr2.1]; simp [kPkt])))
        rw [blk_add] at h3
        try simp only at h3
        omega
      have hne3 : ¬ w.heap.size = w1.heap.size := by omega
      have HB2 := Aside.mk hB2
      have HBr := Aside.mk (below_all HBw.out HBw.out.size hB2)
      have hws : w.heap.size < w1.heap.size := hlt0
      have hH1 : Aside (∀ a, RdSes (fun b => b < w.heap.size) (wr.setRow w1.heap.size a) s A1 c1 A2 c2 A3 c3 A4 c4) := ⟨fun a => (H.out.below HBr.out).kp ((Kp.refl _ _).put (fun b hb => by omega) _)⟩
      have hT : Aside (∀ a, RdSes (fun _ => True) (wr.setRow w1.heap.size a) s B1 d1 B2 d2 B3 d3 A4 c4) := ⟨fun a => by
        have hr : RdSes (fun b => b < w1.heap.size) (wr.setRow w1.heap.size a) (freeS s id) B1 d1 B2 d2 B3 d3 B4 d4 := (((HRD.out.mono (ok' := fun b => b < w1.heap.size) (fun b _ hlt => hlt)).below ((Below.refl w1.heap.size w1).alloc (Nat.le_refl _) (.cells (sesCells (freeS s id) B1 d1 B2 d2 B3 d3 B4 d4) 27))).below hB2).kp ((Kp.refl _ _).put (fun b hb => by omega) _)
        exact ⟨hr.subs.mono (fun _ _ _ => trivial), hr.queue.mono (fun _ _ _ => trivial), hr.flight.mono (fun _ _ _ => trivial), (hH1.out a).ids.mono (fun _ _ _ => trivial)⟩⟩
      clear hB2 f0 f1 e0 e1 eh hP
      go_wp2_with fail
      refine (sameSession_any s A1 c1 A2 c2 A3 c3 A4 c4 B1 d1 B2 d2 B3 d3 A4 c4 (fun b => b < w.heap.size) (fun _ => True) _ (hH1.out _) (hT.out _)).mono ?_
      rintro e w5 ⟨rfl, hb5⟩
      have HB5 := Aside.mk (below_all (below_put HBr.out (by omega) _) (by have := HBr.out.size; simp; omega) hb5)
      clear hb5
      go_wp2_with fail
      refine (awake_any _).mono ?_
      rintro e w6 ⟨rfl, hb6⟩
      have HB6 := Aside.mk (below_all HB5.out HB5.out.size hb6)
      clear hb6
      go_wp2_with fail
      go_ret
      exact ⟨by simp, HB6.out⟩

set_option maxRecDepth 100000 in
set_option maxHeartbeats 8000000 in
theorem quiet_rest (u3 u4 u5 u6 u7 u8 u9 u10 u11 u12 u13 u14 u15 u16 u17 u18 u19 u20 u21 u22 u23 u24 u25 u26 u27 u28 u29 u30 u31 u32 u33 u34 u35 u36 u37 u38 u39 u40 u41 u42 u43 u44 u45 u46 u47 u48 u49 u50 u51 u52 u53 u54 u55 u56 u57 u58 u59 u60 u61 u62 u63 u64 u65 u66 u67 u68 u69 u70 u71 u72 u73 u74 u75 u76 u77 u78 u79 u80 u81 u82 u83 u84 u85 u86 u87 u88 u89 u90 u91 u92 u93 u94 u95 u96 u97 u98 u99 u100 u101 u102 u103 u104 u105 u106 u107 u108 u109 u110 u111 u112 u113 u114 : Value) (wc : World) (s : Ses) (A1 : Option Addr) (c1 : Nat) (A2 : Option Addr) (c2 : Nat) (A3 : Option Addr) (c3 : Nat) (A4 : Option Addr) (c4 : Nat) (id : Int) (w : World) (H : Aside (RdSes (fun b => b < w.heap.size) w s A1 c1 A2 c2 A3 c3 A4 c4)) (hi1 : 1 ≤ id) (hi2 : id ≤ 65535) (HON : Aside (onB s.flight id = false)) (HFL : Aside (s.flight.length ≤ 60)) (hb : Blk wc w.heap.size 27 (sesCells s A1 c1 A2 c2 A3 c3 A4 c4)) (hB : Below w.heap.size w wc) :
    Code.wp Try.prog rest6 (bodyPost Try.prog Try.f6 (PostT w)) { tmps := #[.agg #[.string s.cl, .slice A1 s.subs.length c1, .slice A2 s.queue.length c2, .slice A3 s.flight.length c3, .slice A4 s.ids.length c4, .int .i64 s.nid, .int .i64 s.hd, .int .i64 s.snt], .int .i64 id, .pointer (some ⟨w.heap.size, 0, none⟩), u3, u4, u5, u6, u7, u8, u9, u10, u11, u12, u13, u14, u15, u16, u17, u18, u19, u20, u21, u22, u23, u24, u25, u26, u27, u28, u29, u30, u31, u32, u33, u34, u35, u36, u37, u38, u39, u40, u41, u42, u43, u44, u45, u46, u47, u48, u49, u50, u51, u52, u53, u54, u55, u56, u57, u58, u59, u60, u61, u62, u63, u64, u65, u66, u67, u68, u69, u70, u71, u72, u73, u74, u75, u76, u77, u78, u79, u80, u81, u82, u83, u84, u85, u86, u87, u88, u89, u90, u91, u92, u93, u94, u95, u96, u97, u98, u99, u100, u101, u102, u103, u104, u105, u106, u107, u108, u109, u110, u111, u112, u113, u114], defers := [] } wc := by
  conv => arg 2; whnf
  have HB := Aside.mk hB
  have hg0 := hb.lt
  have D0 := Aside.mk hb
  clear hb hB
  go_upto_block 0 with (fail)
  go_cut [] (fun wx => Blk wx w.heap.size 27 (sesCells s A1 c1 A2 c2 A3 c3 A4 c4) ∧ Below w.heap.size w wx)
  case first =>
    have D0w := Aside.mk (D0.out.alloc (.cells #[.int .i64 4, .int .i64 5, .int .i64 7] 3))
    have G0w := Aside.mk (Blk.new wc 3 #[.int .i64 4, .int .i64 5, .int .i64 7])
    have HBw := Aside.mk (HB.out.alloc HB.out.size (.cells #[.int .i64 4, .int .i64 5, .int .i64 7] 3))
    go_wp2_with fail
    go_loopw [34] (fun i wr => ∃ k : Nat, k ≤ 3 ∧ i = .int .i64 k ∧ Below w.heap.size w wr ∧ Blk wr w.heap.size 27 (sesCells s A1 c1 A2 c2 A3 c3 A4 c4) ∧ Blk wr wc.heap.size 3 #[.int .i64 4, .int .i64 5, .int .i64 7]) (fun i _ => 3 - (intOf i).toNat)
    case atStart => exact ⟨0, by omega, rfl, HBw.out, D0w.out, G0w.out⟩
    case round =>
      obtain ⟨k, hk, rfl, hB, hd, hg⟩ := hrel
      have HB := Aside.mk hB; have D0 := Aside.mk hd; have G0 := Aside.mk hg
      obtain ⟨d0c, d0f, _, _⟩ := hd.all
      obtain ⟨g0c, g0f, _, _⟩ := hg.all
      clear hB hd hg
      match k, hk with
      | 0, _ =>
        have hlen : True := trivial
        have HQ := Aside.mk (quiet_puback s id hi1 hi2 HON.out)
        go_wp2_with fail
        refine (answer_any s A1 c1 A2 c2 A3 c3 A4 c4 4 id (fun b => b < w.heap.size) _ (H.out.below HB.out) (by have := HFL.out; omega)).mono ?_
        rintro e w1 h1
        rw [HQ.out] at h1
        obtain ⟨vs, vp, rfl, ⟨B1, d1, B2, d2, B3, d3, B4, d4, rfl, hrd⟩, ⟨Bp, dp, rfl, hpk⟩, hb1⟩ := h1
        dsimp only at hrd hpk
        have HRD := Aside.mk hrd; have HPK := Aside.mk hpk
        have HB1 := Aside.mk (below_all HB.out HB.out.size hb1)
        have D1 := Aside.mk (D0.out.belowAll hb1)
        have G1 := Aside.mk (G0.out.belowAll hb1)
        have hlt0 := D1.out.lt
        have hne0 : ¬ w.heap.size = w1.heap.size := by omega
        have hltg := G1.out.lt
        have hneg : ¬ wc.heap.size = w1.heap.size := by omega
        clear d0c d0f g0c g0f hrd hpk hb1
        obtain ⟨d0c, d0f, _, _⟩ := D1.out.all
        obtain ⟨g0c, g0f, _, _⟩ := G1.out.all
        simp only [sesCells, List.length_nil]
        go_wp2_with fail
        have HB2 := Aside.mk ((Below.refl w1.heap.size w1).alloc (Nat.le_refl _) (.cells (sesCells s B1 d1 B2 d2 B3 d3 B4 d4) 27))
        refine (sameSession_any s A1 c1 A2 c2 A3 c3 A4 c4 B1 d1 B2 d2 B3 d3 B4 d4 (fun b => b < w.heap.size) _ _ ((H.out.below HB1.out).below HB2.out) (HRD.out.below HB2.out)).mono ?_
        rintro e w5 ⟨rfl, hb5⟩
        have h15 := below_all HB2.out HB2.out.size hb5
        have HB5 := Aside.mk (below_all HB1.out HB1.out.size h15)
        have D5 := Aside.mk (D1.out.belowAll h15)
        have G5 := Aside.mk (G1.out.belowAll h15)
        clear hb5 h15
        go_wp2_with fail
        go_roundw
        case rel => exact ⟨1, by omega, rfl, HB5.out, D5.out, G5.out⟩
        case measure => simp [intOf]
      | 1, _ =>
        have hlen : True := trivial
        have HQ := Aside.mk (quiet_pubrec s id hi1 hi2 HON.out)
        go_wp2_with fail
        refine (answer_any s A1 c1 A2 c2 A3 c3 A4 c4 5 id (fun b => b < w.heap.size) _ (H.out.below HB.out) (by have := HFL.out; omega)).mono ?_
        rintro e w1 h1
        rw [HQ.out] at h1
        obtain ⟨vs, vp, rfl, ⟨B1, d1, B2, d2, B3, d3, B4, d4, rfl, hrd⟩, ⟨Bp, dp, rfl, hpk⟩, hb1⟩ := h1
        dsimp only at hrd hpk
        have HRD := Aside.mk hrd; have HPK := Aside.mk hpk
        have HB1 := Aside.mk (below_all HB.out HB.out.size hb1)
        have D1 := Aside.mk (D0.out.belowAll hb1)
        have G1 := Aside.mk (G0.out.belowAll hb1)
        have hlt0 := D1.out.lt
        have hne0 : ¬ w.heap.size = w1.heap.size := by omega
        have hltg := G1.out.lt
        have hneg : ¬ wc.heap.size = w1.heap.size := by omega
        clear d0c d0f g0c g0f hrd hpk hb1
        obtain ⟨d0c, d0f, _, _⟩ := D1.out.all
        obtain ⟨g0c, g0f, _, _⟩ := G1.out.all
        simp only [sesCells, List.length_singleton]
        obtain ⟨ad, A', c', hA, hP, e0, eh⟩ := pkt_at (HPK.out.below ((Below.refl w1.heap.size w1).alloc (Nat.le_refl _) (.cells (sesCells s B1 d1 B2 d2 B3 d3 B4 d4) 27))).2.2.2 (i := 0) (by simp) (x := bareP 6 id) rfl
        subst hA
        have e1 := eh 1 _ (by decide) rfl
        have e0' : (w1.alloc (.cells (sesCells s B1 d1 B2 d2 B3 d3 B4 d4) 27)).cell? ad = some (.int .i64 6) := by simpa [Addr.add, bareP] using e0
        have e1' : (w1.alloc (.cells (sesCells s B1 d1 B2 d2 B3 d3 B4 d4) 27)).cell? ⟨ad.block, ad.off + 1, none⟩ = some (.int .i64 id) := by simpa [Addr.add, bareP] using e1
        clear e0 e1 eh hP
        go_wp2_with fail
        have HB2 := Aside.mk ((Below.refl w1.heap.size w1).alloc (Nat.le_refl _) (.cells (sesCells s B1 d1 B2 d2 B3 d3 B4 d4) 27))
        refine (sameSession_any s A1 c1 A2 c2 A3 c3 A4 c4 B1 d1 B2 d2 B3 d3 B4 d4 (fun b => b < w.heap.size) _ _ ((H.out.below HB1.out).below HB2.out) (HRD.out.below HB2.out)).mono ?_
        rintro e w5 ⟨rfl, hb5⟩
        have h15 := below_all HB2.out HB2.out.size hb5
        have HB5 := Aside.mk (below_all HB1.out HB1.out.size h15)
        have D5 := Aside.mk (D1.out.belowAll h15)
        have G5 := Aside.mk (G1.out.belowAll h15)
        clear hb5 h15
        go_wp2_with fail
        go_roundw
        case rel => exact ⟨2, by omega, rfl, HB5.out, D5.out, G5.out⟩
        case measure => simp [intOf]
      | 2, _ =>
        have hlen : True := trivial
        have HQ := Aside.mk (quiet_pubcomp s id hi1 hi2 HON.out)
        go_wp2_with fail
        refine (answer_any s A1 c1 A2 c2 A3 c3 A4 c4 7 id (fun b => b < w.heap.size) _ (H.out.below HB.out) (by have := HFL.out; omega)).mono ?_
        rintro e w1 h1
        rw [HQ.out] at h1
        obtain ⟨vs, vp, rfl, ⟨B1, d1, B2, d2, B3, d3, B4, d4, rfl, hrd⟩, ⟨Bp, dp, rfl, hpk⟩, hb1⟩ := h1
        dsimp only at hrd hpk
        have HRD := Aside.mk hrd; have HPK := Aside.mk hpk
        have HB1 := Aside.mk (below_all HB.out HB.out.size hb1)
        have D1 := Aside.mk (D0.out.belowAll hb1)
        have G1 := Aside.mk (G0.out.belowAll hb1)
        have hlt0 := D1.out.lt
        have hne0 : ¬ w.heap.size = w1.heap.size := by omega
        have hltg := G1.out.lt
        have hneg : ¬ wc.heap.size = w1.heap.size := by omega
        clear d0c d0f g0c g0f hrd hpk hb1
        obtain ⟨d0c, d0f, _, _⟩ := D1.out.all
        obtain ⟨g0c, g0f, _, _⟩ := G1.out.all
        simp only [sesCells, List.length_nil]
        go_wp2_with fail
        have HB2 := Aside.mk ((Below.refl w1.heap.size w1).alloc (Nat.le_refl _) (.cells (sesCells s B1 d1 B2 d2 B3 d3 B4 d4) 27))
        refine (sameSession_any s A1 c1 A2 c2 A3 c3 A4 c4 B1 d1 B2 d2 B3 d3 B4 d4 (fun b => b < w.heap.size) _ _ ((H.out.below HB1.out).below HB2.out) (HRD.out.below HB2.out)).mono ?_
        rintro e w5 ⟨rfl, hb5⟩
        have h15 := below_all HB2.out HB2.out.size hb5
        have HB5 := Aside.mk (below_all HB1.out HB1.out.size h15)
        have D5 := Aside.mk (D1.out.belowAll h15)
        have G5 := Aside.mk (G1.out.belowAll h15)
        clear hb5 h15
        go_wp2_with fail
        go_roundw
        case rel => exact ⟨3, by omega, rfl, HB5.out, D5.out, G5.out⟩
        case measure => simp [intOf]
      | 3, _ =>
        go_wp2_with fail
        go_meet
        exact ⟨D0.out, HB.out⟩
      | n + 4, h => exact absurd h (by omega)
  case rest =>
    rename_i K hK
    exact hK _ _ (quiet_end _ _ _ _ _ _ _ _ _ _ _ _ _ _ _ _ _ _ _ _ _ _ _ _ _ _ _ _ _ _ _ _ _ _ _ _ _ _ _ _ _ _ _ _ _ _ _ _ _ _ _ _ _ _ _ _ _ _ _ _ _ _ _ _ _ _ _ _ _ _ _ _ _ _ _ _ _ _ _ _ _ _ _ _ _ _ _ _ _ _ _ _ _ _ _ _ _ _ _ _ _ _ _ _ _ _ _ _ _ _ _ _ _ s A1 c1 A2 c2 A3 c3 A4 c4 id w H hi1 hi2 HON HFL hcut.1 hcut.2)

/-- Does the law have something to show? -/
def quietB (s : Ses) (id : Int) : Bool := !(lightB s) || decide (id < 1) || decide (65535 < id) || onB s.flight id
theorem light_fl {s : Ses} (h : lightB s = true) : s.flight.length ≤ 60 := by
  unfold lightB at h
  simp only [Bool.and_eq_true, decide_eq_true_eq] at h
  exact h.1.1.2

set_option maxRecDepth 100000 in
set_option maxHeartbeats 4000000 in
theorem quiet_any (s : Ses) (A1 : Option Addr) (c1 : Nat) (A2 : Option Addr) (c2 : Nat) (A3 : Option Addr) (c3 : Nat) (A4 : Option Addr) (c4 : Nat) (id : Int) (ok : Nat → Prop) (w : World)
    (h : RdSes ok w s A1 c1 A2 c2 A3 c3 A4 c4) :
    Calls Try.prog 6 #[.agg (sesCells s A1 c1 A2 c2 A3 c3 A4 c4), .int .i64 id] w (PostT w) := by
  have H := Aside.mk (h.mono (ok' := fun b => b < w.heap.size) (fun b _ hlt => hlt))
  clear h
  simp only [sesCells]
  go_enter Try.func6, Try.ntmps6
  go_upto_region 1 with fail
  go_cut [30] (fun v wx => v = .bool (quietB s id) ∧ Blk wx w.heap.size 27 (sesCells s A1 c1 A2 c2 A3 c3 A4 c4) ∧ Below w.heap.size w wx)
  case first =>
    go_wp2_with fail
    refine (light_any s A1 c1 A2 c2 A3 c3 A4 c4 (fun b => b < w.heap.size) _ (H.out.below ((Below.refl _ _).alloc (Nat.le_refl _) _))).mono ?_
    rintro e w1 ⟨rfl, hb1⟩
    have d0 := (Blk.new w 27 (sesCells s A1 c1 A2 c2 A3 c3 A4 c4)).belowAll hb1
    have HB1 := Aside.mk (below_all ((Below.refl w.heap.size w).alloc (Nat.le_refl _) (.cells (sesCells s A1 c1 A2 c2 A3 c3 A4 c4) 27)) (by simp) hb1)
    have D0 := Aside.mk d0
    obtain ⟨d0c, d0f, _, _⟩ := d0.all
    clear d0 hb1
    cases hl : lightB s
    · have HL := Aside.mk hl
      clear hl
      go_wp2_with fail
      go_meet
      exact ⟨by simp [quietB, HL.out], D0.out, HB1.out⟩
    · have HL := Aside.mk hl
      clear hl
      by_cases h1 : id < 1
      · go_wp2_with fail
        go_meet
        exact ⟨by simp [quietB, h1], D0.out, HB1.out⟩
      · have h1' : 1 ≤ id := by omega
        by_cases h2 : 65535 < id
        · go_wp2_with fail
          go_meet
          exact ⟨by simp [quietB, h2], D0.out, HB1.out⟩
        · have h2' : id ≤ 65535 := by omega
          have H1 := Aside.mk h1; have H2 := Aside.mk h2
          clear h1 h2
          go_wp2_with fail
          refine (on_any s.flight A3 c3 (fun b => b < w.heap.size) id w1 (H.out.below HB1.out).flight).mono ?_
          rintro e w2 ⟨rfl, hb2⟩
          have HB2 := Aside.mk (below_all HB1.out HB1.out.size hb2)
          have D2 := Aside.mk (D0.out.belowAll hb2)
          clear hb2
          go_wp2_with fail
          go_meet
          exact ⟨by simp [quietB, H1.out, H2.out, HL.out], D2.out, HB2.out⟩
  case rest =>
    obtain ⟨rfl, hb, hB⟩ := hcut
    cases hq : quietB s id
    · have hq' : (!(lightB s) || decide (id < 1) || decide (65535 < id) || onB s.flight id) = false := hq
      simp only [Bool.or_eq_false_iff, Bool.not_eq_false', decide_eq_false_iff_not] at hq'
      obtain ⟨⟨⟨q1, q2⟩, q3⟩, q4⟩ := hq'
      have HB := Aside.mk hB; have D0 := Aside.mk hb
      clear hB hb hq
      go_upto_if 30 with (fail)
      go_cut [] (fun wx => Blk wx w.heap.size 27 (sesCells s A1 c1 A2 c2 A3 c3 A4 c4) ∧ Below w.heap.size w wx)
      case first =>
        go_wp2_with fail
        go_meet
        exact ⟨D0.out, HB.out⟩
      case rest =>
        refine (show ∀ (a : Act) (w_1 : World), Code.wp Try.prog rest6 (bodyPost Try.prog Try.f6 (PostT w)) a w_1 → _ from by assumption) _ _ (quiet_rest _ _ _ _ _ _ _ _ _ _ _ _ _ _ _ _ _ _ _ _ _ _ _ _ _ _ _ _ _ _ _ _ _ _ _ _ _ _ _ _ _ _ _ _ _ _ _ _ _ _ _ _ _ _ _ _ _ _ _ _ _ _ _ _ _ _ _ _ _ _ _ _ _ _ _ _ _ _ _ _ _ _ _ _ _ _ _ _ _ _ _ _ _ _ _ _ _ _ _ _ _ _ _ _ _ _ _ _ _ _ _ _ _ s A1 c1 A2 c2 A3 c3 A4 c4 id w H (by omega) (by omega) ⟨q4⟩ ⟨light_fl q1⟩ hcut.1 hcut.2)
    · have HB := Aside.mk hB
      clear hb hB
      go_wp2_with fail
      refine (awake_any _).mono ?_
      rintro e w2 ⟨rfl, hb2⟩
      have HB2 := Aside.mk (below_all HB.out HB.out.size hb2)
      clear hb2
      go_wp2_with fail
      go_ret
      exact ⟨rfl, HB2.out⟩
end Go.Proofs.Ytmeeldcgmfplnaa
