/-
  Contracts: SameAll, SameSession, at equal data.
-/
import Derived.Test.YtmeeldcgmfplnaaW11
set_option linter.unusedVariables false
set_option linter.unusedSimpArgs false
namespace Go.Proofs.Ytmeeldcgmfplnaa
open Go.RowKit
attribute [local go_sem] setRow_setCell_same setRow_setCell_other setRow_cell_same setRow_cell_other setRow_frozen setRow_shape
attribute [local go_sem ↓] Go.wp_at_zero Go.wp_at_succ

set_option maxRecDepth 100000 in
set_option maxHeartbeats 2000000 in
theorem sameAll_any (xs : List Pkt) (A : Option Addr) (c : Nat) (B : Option Addr) (d : Nat) (ok ok' : Nat → Prop) (w : World) (h1 : Sl 184 kPkt ok w A c xs) (h2 : Sl 184 kPkt ok' w B d xs) :
    Calls Try.prog 16 #[.slice A xs.length c, .slice B xs.length d] w (PostT w) := by
  have hl := h1.2.2.1
  have hl' : xs.length ≤ 140737488355328 := by omega
  have H1 := Aside.mk h1; have H2 := Aside.mk h2
  clear h1 h2
  go_enter Try.func16, Try.ntmps16
  go_wp2_with fail
  go_loopw [13] (fun i wr => ∃ k : Nat, k ≤ xs.length ∧ i = .int .i64 k ∧ Below w.heap.size w wr) (fun i _ => xs.length - (intOf i).toNat)
  case atStart => exact ⟨0, Nat.zero_le _, rfl, Below.refl _ _⟩
  case round =>
    obtain ⟨k, hk, rfl, hB⟩ := hrel
    by_cases hlt : k < xs.length
    · have hlt' : (k : Int) < (xs.length : Int) := by omega
      have hk0 : (0 : Int) ≤ (k : Int) := by omega
      have hx : xs[k]? = some xs[k] := List.getElem?_eq_getElem hlt
      obtain ⟨ad, A', c', rfl, hP, e0, eh⟩ := pkt_at (H1.out.below hB).2.2.2 hlt hx
      obtain ⟨bd, B', d', rfl, hQ, f0, fh⟩ := pkt_at (H2.out.below hB).2.2.2 hlt hx
      generalize hxq : xs[k] = x at hx hP hQ e0 eh f0 fh
      have HB := Aside.mk hB; have HP := Aside.mk hP; have HQ := Aside.mk hQ
      clear hB hx hP hQ hxq
      have e1 := eh 1 _ (by decide) rfl; have f1 := fh 1 _ (by decide) rfl
      have e2 := eh 2 _ (by decide) rfl; have f2 := fh 2 _ (by decide) rfl
      have e3 := eh 3 _ (by decide) rfl; have f3 := fh 3 _ (by decide) rfl
      have e4 := eh 4 _ (by decide) rfl; have f4 := fh 4 _ (by decide) rfl
      have e5 := eh 5 _ (by decide) rfl; have f5 := fh 5 _ (by decide) rfl
      have e6 := eh 6 _ (by decide) rfl; have f6 := fh 6 _ (by decide) rfl
      have e7 := eh 7 _ (by decide) rfl; have f7 := fh 7 _ (by decide) rfl
      have e8 := eh 8 _ (by decide) rfl; have f8 := fh 8 _ (by decide) rfl
      have e9 := eh 9 _ (by decide) rfl; have f9 := fh 9 _ (by decide) rfl
      have e10 := eh 10 _ (by decide) rfl; have f10 := fh 10 _ (by decide) rfl
      have e11 := eh 11 _ (by decide) rfl; have f11 := fh 11 _ (by decide) rfl
      have e12 := eh 12 _ (by decide) rfl; have f12 := fh 12 _ (by decide) rfl
      have e13 := eh 13 _ (by decide) rfl; have f13 := fh 13 _ (by decide) rfl
      have e14 := eh 14 _ (by decide) rfl; have f14 := fh 14 _ (by decide) rfl
      have e15 := eh 15 _ (by decide) rfl; have f15 := fh 15 _ (by decide) rfl
      clear eh fh
      go_upto_region 6 with fail
      go_region_with (first | (go_at_call 33; refine (same_any x A' c' B' d' ok ok' _ ?_ ?_).mono ?_; exact HP.out.below (Below.refl _ _).drew; exact HQ.out.below (Below.refl _ _).drew; rintro e wv ⟨rfl, hb1⟩))
      all_goals
        have HBv := Aside.mk (below_all HB.out.drew HB.out.size hb1)
        clear hb1
        go_wp2_with fail
        exact ⟨⟨k + 1, by omega, rfl, HBv.out⟩, by simp [intOf]; omega⟩
    · have hge : decide (k < xs.length) = false := by simp; omega
      have HB := Aside.mk hB
      clear hB
      go_wp2_with fail
      go_ret
      exact ⟨rfl, HB.out⟩

/-- In SameSession's loops. -/
structure R15 (s : Ses) (A1 : Option Addr) (c1 : Nat) (A2 : Option Addr) (c2 : Nat) (A3 : Option Addr) (c3 : Nat) (A4 : Option Addr) (c4 : Nat) (B1 : Option Addr) (d1 : Nat) (B2 : Option Addr) (d2 : Nat) (B3 : Option Addr) (d3 : Nat) (B4 : Option Addr) (d4 : Nat) (w wr : World) : Prop where
  b1 : Blk wr w.heap.size 27 (sesCells s A1 c1 A2 c2 A3 c3 A4 c4)
  b2 : Blk wr (w.heap.size + 1) 27 (sesCells s B1 d1 B2 d2 B3 d3 B4 d4)
  below : Below w.heap.size w wr
theorem int_at {ok : Nat → Prop} {w : World} {A : Option Addr} {n : Nat} {xs : List Int} (h : kI64.C ok w A n xs) {i : Nat} (hi : i < n) {x : Int} (hx : xs[i]? = some x) :
    ∃ ad, A = some ad ∧ w.cell? (ad.add i) = some (.int .i64 x) := by
  obtain ⟨ad, c, rfl, hk, hc⟩ := Kn.C_at h hi hx
  have hk' : c = [Value.int .i64 x] := hk
  subst hk'
  refine ⟨ad, rfl, ?_⟩
  have := hc 0 _ rfl
  simpa [kI64, Kn.int, Kn.scalar] using this

set_option maxRecDepth 100000 in
set_option maxHeartbeats 2000000 in
theorem sameSession_any (s : Ses) (A1 : Option Addr) (c1 : Nat) (A2 : Option Addr) (c2 : Nat) (A3 : Option Addr) (c3 : Nat) (A4 : Option Addr) (c4 : Nat) (B1 : Option Addr) (d1 : Nat) (B2 : Option Addr) (d2 : Nat) (B3 : Option Addr) (d3 : Nat) (B4 : Option Addr) (d4 : Nat) (ok ok' : Nat → Prop) (w : World)
    (h1 : RdSes ok w s A1 c1 A2 c2 A3 c3 A4 c4) (h2 : RdSes ok' w s B1 d1 B2 d2 B3 d3 B4 d4) :
    Calls Try.prog 15 #[.agg (sesCells s A1 c1 A2 c2 A3 c3 A4 c4), .agg (sesCells s B1 d1 B2 d2 B3 d3 B4 d4)] w (PostT w) := by
  have hl3 := h1.flight.2.2.1; have hl4 := h1.ids.2.2.1
  have hl3' : s.flight.length ≤ 140737488355328 := by omega
  have hl4' : s.ids.length ≤ 140737488355328 := by omega
  have H1 := Aside.mk h1; have H2 := Aside.mk h2
  clear h1 h2
  simp only [sesCells]
  go_enter Try.func15, Try.ntmps15
  go_wp2_with fail
  have hB0 : Below w.heap.size w ((w.alloc (.cells (sesCells s A1 c1 A2 c2 A3 c3 A4 c4) 27)).alloc (.cells (sesCells s B1 d1 B2 d2 B3 d3 B4 d4) 27)) := ((Below.refl _ _).alloc (Nat.le_refl _) _).alloc (by simp) _
  have HB0 := Aside.mk hB0
  clear hB0
  refine (sameWants_any s.subs A1 c1 B1 d1 ok ok' _ (H1.out.subs.below HB0.out) (H2.out.subs.below HB0.out)).mono ?_
  rintro e w1 ⟨rfl, hb1⟩
  have k1 := ((Blk.new w 27 (sesCells s A1 c1 A2 c2 A3 c3 A4 c4)).alloc (.cells (sesCells s B1 d1 B2 d2 B3 d3 B4 d4) 27)).below hb1 (by simp <;> omega)
  have k2 := (Blk.newAt _ (w.heap.size + 1) (by simp) 27 (sesCells s B1 d1 B2 d2 B3 d3 B4 d4)).below hb1 (by simp <;> omega)
  have HR := Aside.mk (R15.mk k1 k2 (below_all HB0.out HB0.out.size hb1))
  obtain ⟨k1c, k1f, _, _⟩ := k1.all
  obtain ⟨k2c, k2f, _, _⟩ := k2.all
  clear hb1 k1 k2
  go_wp2_with fail
  refine (sameMessages_any s.queue A2 c2 B2 d2 ok ok' _ (H1.out.queue.below HR.out.below) (H2.out.queue.below HR.out.below)).mono ?_
  rintro e w2 ⟨rfl, hb2⟩
  have HR2 := Aside.mk (R15.mk (HR.out.b1.belowAll hb2) (HR.out.b2.belowAll hb2) (below_all HR.out.below HR.out.below.size hb2))
  clear k1c k1f k2c k2f hb2
  obtain ⟨k1c, k1f, _, _⟩ := HR2.out.b1.all
  obtain ⟨k2c, k2f, _, _⟩ := HR2.out.b2.all
  go_wp2_with fail
  go_loopw [72] (fun i wr => ∃ k : Nat, k ≤ s.flight.length ∧ i = .int .i64 k ∧ R15 s A1 c1 A2 c2 A3 c3 A4 c4 B1 d1 B2 d2 B3 d3 B4 d4 w wr) (fun i _ => s.flight.length - (intOf i).toNat)
  case atStart => exact ⟨0, Nat.zero_le _, rfl, HR2.out⟩
  case round =>
    clear k1c k1f k2c k2f HR HR2
    obtain ⟨k, hk, rfl, hR⟩ := hrel
    obtain ⟨k1c, k1f, _, _⟩ := hR.b1.all
    obtain ⟨k2c, k2f, _, _⟩ := hR.b2.all
    by_cases hlt : k < s.flight.length
    · have hlt' : (k : Int) < (s.flight.length : Int) := by omega
      have hk0 : (0 : Int) ≤ (k : Int) := by omega
      have hx : s.flight[k]? = some s.flight[k] := List.getElem?_eq_getElem hlt
      obtain ⟨ad, A', c', rfl, hP, _, e0, e1, e2, e3, e4, e5, e6, e7⟩ := flt_at (H1.out.flight.below hR.below).2.2.2 hlt hx
      obtain ⟨bd, B', d', rfl, hQ, _, f0, f1, f2, f3, f4, f5, f6, f7⟩ := flt_at (H2.out.flight.below hR.below).2.2.2 hlt hx
      generalize hxq : s.flight[k] = x at hx hP hQ e0 e1 e2 e3 e4 e5 e6 e7 f0 f1 f2 f3 f4 f5 f6 f7
      have HR := Aside.mk hR; have HP := Aside.mk hP; have HQ := Aside.mk hQ
      have hs0 : w.heap.size < wr.heap.size := hR.b1.lt
      have hs1 : w.heap.size + 1 < wr.heap.size := hR.b2.lt
      have hn0 : ¬ w.heap.size = wr.heap.size := by omega
      have hn1 : ¬ w.heap.size + 1 = wr.heap.size := by omega
      have ha := World.block_lt_of_cell? _ _ e0
      have hb := World.block_lt_of_cell? _ _ f0
      have hna : ¬ (ad.add (k * 8)).block = wr.heap.size := by omega
      have hnb : ¬ (bd.add (k * 8)).block = wr.heap.size := by omega
      clear hR hx hP hQ hxq
      go_wp2_with fail
      refine (sameMessage_any x.m A' c' B' d' ok ok' _ ?_ ?_).mono ?_
      · exact HP.out.below (((Below.refl _ _).alloc (Nat.le_refl _) _).alloc (by simp) _)
      · exact HQ.out.below (((Below.refl _ _).alloc (Nat.le_refl _) _).alloc (by simp) _)
      rintro e wv ⟨rfl, hb1⟩
      have HRv := Aside.mk (R15.mk (((HR.out.b1.alloc _).alloc _).belowAll hb1) (((HR.out.b2.alloc _).alloc _).belowAll hb1) (below_all ((HR.out.below.alloc HR.out.below.size _).alloc (by have := HR.out.below.size; simp; omega) _) (by have := HR.out.below.size; simp; omega) hb1))
      clear hb1
      go_wp2_with fail
      exact ⟨⟨k + 1, by omega, rfl, HRv.out⟩, by simp [intOf]; omega⟩
    · have hge : decide (k < s.flight.length) = false := by simp; omega
      have HR := Aside.mk hR
      clear hR
      go_wp2_with fail
      clear hge k1c k1f k2c k2f
      go_loopw [113] (fun i wr => ∃ k : Nat, k ≤ s.ids.length ∧ i = .int .i64 k ∧ R15 s A1 c1 A2 c2 A3 c3 A4 c4 B1 d1 B2 d2 B3 d3 B4 d4 w wr) (fun i _ => s.ids.length - (intOf i).toNat)
      case atStart => exact ⟨0, Nat.zero_le _, rfl, HR.out⟩
      case round =>
        clear HR hlt hk
        obtain ⟨k, hk, rfl, hR⟩ := hrel
        obtain ⟨k1c, k1f, _, _⟩ := hR.b1.all
        obtain ⟨k2c, k2f, _, _⟩ := hR.b2.all
        by_cases hlt : k < s.ids.length
        · have hlt' : (k : Int) < (s.ids.length : Int) := by omega
          have hk0 : (0 : Int) ≤ (k : Int) := by omega
          have hx : s.ids[k]? = some s.ids[k] := List.getElem?_eq_getElem hlt
          obtain ⟨ad, rfl, e0⟩ := int_at (H1.out.ids.below hR.below).2.2.2 hlt hx
          obtain ⟨bd, rfl, f0⟩ := int_at (H2.out.ids.below hR.below).2.2.2 hlt hx
          generalize hxq : s.ids[k] = x at hx e0 f0
          have HR := Aside.mk hR
          clear hR hx hxq
          go_upto_region 13 with fail
          go_region_with fail
          all_goals
            go_wp2_with fail
            exact ⟨⟨k + 1, by omega, rfl, HR.out.b1.drew, HR.out.b2.drew, HR.out.below.drew⟩, by simp [intOf]; omega⟩
        · have hge : decide (k < s.ids.length) = false := by simp; omega
          have HR := Aside.mk hR
          clear hR
          go_wp2_with fail
          go_ret
          exact ⟨rfl, HR.out.below⟩
end Go.Proofs.Ytmeeldcgmfplnaa
