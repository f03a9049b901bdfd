/-
  Contract of the reference: Resume.
-/
import Derived.Test.YtmeeldcgmfplnaaW35
import Derived.Deep.CutBlock
set_option linter.unusedVariables false
set_option linter.unusedSimpArgs false
namespace Go.Proofs.Ytmeeldcgmfplnaa
open Go.RowKit
attribute [local go_sem] setRow_setCell_same setRow_setCell_other setRow_cell_same setRow_cell_other setRow_frozen setRow_shape
attribute [local go_sem ↓] Go.wp_at_zero Go.wp_at_succ

/-- In the loop: so many flights have been told. -/
structure R24 (ok : Nat → Prop) (w : World) (s : Ses) (w0 : World) (k : Nat) (v : Value) (wx : World) : Prop where
  out : Own 43 kPkt (fun b => (ok b ∧ b < w.heap.size) ∨ w.heap.size + 2 ≤ b) w0.heap.size wx v (redoL (s.flight.take k))
  below : Below w0.heap.size w0 wx
theorem R24.start (ok : Nat → Prop) (w : World) (s : Ses) (w0 : World) : R24 ok w s w0 0 (.slice none 0 0) w0 := ⟨by simpa [redoL] using Own.nil _ _ _ _ _, Below.refl _ _⟩
theorem R24.step {ok : Nat → Prop} {w : World} {s : Ses} {w0 : World} {k : Nat} {v : Value} {wx wl w2 : World} {v2 : Value} {x : Flt} {ps : List Pkt} (h : R24 ok w s w0 k v wx) (hb : Below wx.heap.size wx wl) (hx : s.flight[k]? = some x) (hr : redo x = ps)
    (hO : Own 43 kPkt (fun b => (ok b ∧ b < w.heap.size) ∨ w.heap.size + 2 ≤ b) w0.heap.size w2 v2 (redoL (s.flight.take k) ++ ps)) (hg : wl.grownBy w2 v.ownBlock) : R24 ok w s w0 (k + 1) v2 w2 where
  out := by
    have hlt := (List.getElem?_eq_some_iff.1 hx).1
    have hv := (List.getElem?_eq_some_iff.1 hx).2
    rw [take_snoc _ _ hlt, hv, redoL_snoc, hr]
    exact hO
  below := by
    have h1 := below_all h.below h.below.size hb
    exact h1.grown hg h1.size (fun b hb => (h.out.ge b hb).1)
theorem R24.skip {ok : Nat → Prop} {w : World} {s : Ses} {w0 : World} {k : Nat} {v : Value} {wx wl : World} {x : Flt} (h : R24 ok w s w0 k v wx) (hb : Below wx.heap.size wx wl) (hx : s.flight[k]? = some x) (hr : redo x = []) : R24 ok w s w0 (k + 1) v wl where
  out := by
    have hlt := (List.getElem?_eq_some_iff.1 hx).1
    have hv := (List.getElem?_eq_some_iff.1 hx).2
    rw [take_snoc _ _ hlt, hv, redoL_snoc, hr, List.append_nil]
    exact h.out.below hb
  below := below_all h.below h.below.size hb

theorem R24.fin {ok : Nat → Prop} {w wx w2 : World} {lo n : Nat} {r : Ses × List Pkt} {l : List Pkt} {C1 : Option Addr} {g1 : Nat} {C2 : Option Addr} {g2 : Nat} {C3 : Option Addr} {g3 : Nat} {C4 : Option Addr} {g4 : Nat} {row : Option Nat} {v2 : Value}
    (hrd : RdSes (fun b => ((ok b ∧ b < w.heap.size) ∧ b < n) ∨ n ≤ b) wx r.1 C1 g1 C2 g2 C3 g3 C4 g4) (hB : Below w.heap.size w wx) (hn : w.heap.size + 2 ≤ n)
    (hO : Own 43 kPkt (fun b => (ok b ∧ b < w.heap.size) ∨ w.heap.size + 2 ≤ b) lo w2 v2 l) (hg : wx.drew.grownBy w2 row) (hng : ∀ b, b < w.heap.size + 2 ∨ n ≤ b → some b ≠ row) (hl : l.length * 184 ≤ 140737488355328) (a : Array Value) :
    Post30 (r.1, l) ok w (.returned (.tuple #[.agg (sesCells r.1 C1 g1 C2 g2 C3 g3 C4 g4), v2])) (w2.setRow (w.heap.size + 1) a) := by
  obtain ⟨Ap, cp, hv, hS⟩ := hO.reads hl
  have hk : Kp (fun b => ((ok b ∧ b < w.heap.size) ∧ b < n) ∨ n ≤ b) wx (w2.setRow (w.heap.size + 1) a) := ((Kp.refl _ _).drew.grown hg (fun b hb => hng b (hb.elim (fun h => .inl (by have := h.1.2; omega)) .inr))).put (fun b hb => by rcases hb with hb | hb; (have := hb.1.2; omega); omega) _
  have hk2 : Kp (fun b => (ok b ∧ b < w.heap.size) ∨ w.heap.size + 2 ≤ b) w2 (w2.setRow (w.heap.size + 1) a) := (Kp.refl _ _).put (fun b hb => by rcases hb with hb | hb; (have := hb.2; omega); omega) _
  refine ⟨_, _, rfl, ⟨C1, g1, C2, g2, C3, g3, C4, g4, rfl, (hrd.move hk.2).mono (fun b hb _ => hb.elim (fun h => .inl h.1) (fun h => .inr (by omega)))⟩, ⟨Ap, cp, hv, (hS.kp hk2).mono (fun b hb _ => hb.imp (fun h => h) (fun h => by omega))⟩, ?_⟩
  refine below_put (Below.grown hB.drew hg hB.size (fun b hb => ?_)) (by omega) _
  rcases Nat.lt_or_ge b w.heap.size with h | h
  · exact absurd hb.symm (hng b (.inl (by omega)))
  · exact h

set_option maxRecDepth 100000 in
set_option maxHeartbeats 8000000 in
theorem refResume_any (s : Ses) (A1 : Option Addr) (c1 : Nat) (A2 : Option Addr) (c2 : Nat) (A3 : Option Addr) (c3 : Nat) (A4 : Option Addr) (c4 : Nat) (ok : Nat → Prop) (w : World)
    (h : RdSes ok w s A1 c1 A2 c2 A3 c3 A4 c4) (hf : s.flight.length ≤ 100) :
    Calls Try.prog 24 #[.agg (sesCells s A1 c1 A2 c2 A3 c3 A4 c4)] w (Post30 (resumeD s) ok w) := by
  have H := Aside.mk (h.mono (ok' := fun b => ok b ∧ b < w.heap.size) (fun b hb hlt => ⟨hb, hlt⟩))
  clear h
  have B0 := Aside.mk ((Blk.new w 27 (sesCells s A1 c1 A2 c2 A3 c3 A4 c4)).alloc (.cells zeroSes 27))
  have B1 := Aside.mk (Blk.newAt (w.alloc (.cells (sesCells s A1 c1 A2 c2 A3 c3 A4 c4) 27)) (w.heap.size + 1) (by simp) 27 zeroSes)
  have HB0 := Aside.mk (show Below w.heap.size w ((w.alloc (.cells (sesCells s A1 c1 A2 c2 A3 c3 A4 c4) 27)).alloc (.cells zeroSes 27)) from ((Below.refl _ _).alloc (Nat.le_refl _) _).alloc (by simp) _)
  simp only [sesCells]
  go_enter Try.func24, Try.ntmps24
  go_upto_region 1 with fail
  go_cut [4] (fun v wx => v = .slice none 0 0 ∧ Blk wx w.heap.size 27 (sesCells s A1 c1 A2 c2 A3 c3 A4 c4) ∧ Blk wx (w.heap.size + 1) 27 zeroSes ∧ Below w.heap.size w wx)
  case first =>
    go_wp2_with fail
    go_meet
    exact ⟨rfl, B0.out, B1.out, HB0.out⟩
  case rest =>
    clear B0 B1 HB0
    obtain ⟨rfl, b0, b1, hB⟩ := hcut
    have B0 := Aside.mk b0; have B1 := Aside.mk b1; have HB0 := Aside.mk hB
    have hsz : w.heap.size + 2 ≤ wc.heap.size := b1.lt
    clear b0 b1 hB
    obtain ⟨b0c, b0f, b0s, b0h⟩ := B0.out.all
    go_wp2_with fail
    go_loopw [4, 12] (fun v i wr => ∃ k : Nat, k ≤ s.flight.length ∧ i = .int .i64 k ∧ Aside (R24 ok w s wc k v wr)) (fun _ i _ => s.flight.length - (intOf i).toNat)
    case atStart => exact ⟨0, Nat.zero_le _, rfl, ⟨R24.start _ _ _ _⟩⟩
    case round =>
      obtain ⟨k, hk, rfl, HR⟩ := hrel
      clear b0c b0f b0s b0h
      by_cases hlt : k < s.flight.length
      · have hlt' : (k : Int) < (s.flight.length : Int) := by omega
        have hk0 : (0 : Int) ≤ (k : Int) := by omega
        have hx : s.flight[k]? = some s.flight[k] := List.getElem?_eq_getElem hlt
        obtain ⟨ad, A', c', hAd, hP, hw, e0, e1, e2, e3, e4, e5, e6, e7⟩ := flt_at ((H.out.below HB0.out).below HR.out.below).flight.2.2.2 hlt hx
        obtain rfl := hAd
        generalize hxq : s.flight[k] = x at hx hP hw e0 e1 e2 e3 e4 e5 e6 e7
        have HX := Aside.mk hx; have HP := Aside.mk hP
        clear hx hP hxq hw
        by_cases h1 : x.st = 1
        · skip
          have h1' : (x.st == 1) = true := by simpa using h1
          have HD := Aside.mk (show redo x = [pub x.m x.id true] by simp [redo, h1])
          clear h1
          go_wp2_with fail
          refine (told_any x.m A' c' x.id true _).mono ?_
          rintro e w1 ⟨rfl, hb1⟩
          have hs1 : wr.heap.size + 1 ≤ w1.heap.size := by have := hb1.size; simp at this; omega
          have HB1 := Aside.mk (Below.trans ((Below.refl wr.heap.size wr).alloc (Nat.le_refl _) _) (hb1.mono (by simp)))
          clear hb1
          have hbl := Aside.mk (show Below wr.heap.size wr (w1.alloc (.cells (pktCells (pub x.m x.id true) A' c').toArray 43)) from HB1.out.alloc (by omega) _)
          go_wp2_with (at_builtin; go_must (refine wpList_append_Own (P := Try.prog) _ rfl kPkt (.tmp 20) (.tmp 26) 33 43 rfl (.agg zeroPkt) 184 Try.underlying33 info43 rfl (by decide) (ok := fun b => (ok b ∧ b < w.heap.size) ∨ w.heap.size + 2 ≤ b) (okp := fun b => ok b ∧ b < w.heap.size) (lo := wc.heap.size) (v := u4) (xs := redoL (s.flight.take k)) (ys := [pub x.m x.id true]) rfl ?c0 (A := (some ⟨w1.heap.size, 0, none⟩)) (m := 1) (c := 1) rfl ?c1 ?c2 ?c3 ?c4 ?c5 ?_))
          case c0 => exact HR.out.out.below hbl.out
          case c1 => exact Cf_litAt kPkt w1.heap.size rfl (pktCells (pub x.m x.id true) A' c') 43 ⟨A', c', rfl, HP.out.below HB1.out⟩
          case c2 => exact fun b hb _ => ⟨.inl hb, fun e => by have := (HR.out.out.ge b e.symm).1; have := hb.2; omega⟩
          case c3 => exact fun b hb => .inr (by have hz := HR.out.below.size; simp at hb; omega)
          case c4 => have hz := HR.out.below.size; simp; omega
          case c5 =>
            have h1 := redoL_len (s.flight.take k)
            rw [List.length_take] at h1
            rw [List.length_singleton]
            omega
          intro v2 w2 hO hg hat
          have HN := Aside.mk (R24.step HR.out hbl.out HX.out HD.out hO hg)
          clear hO hg hat hbl e0 e1 e2 e3 e4 e5 e6 e7 HP HX HR
          go_wp2_with fail
          go_roundw
          case rel => exact ⟨k + 1, by omega, by go_num, HN⟩
          case measure => simp [intOf]; omega
        · by_cases h2 : x.st = 2
          · skip
            have h1' : (x.st == 1) = false := by simpa using h1
            have h2' : (x.st == 2) = true := by simpa using h2
            have HD := Aside.mk (show redo x = [bareP 6 x.id] by simp [redo, h2])
            clear h1 h2
            have hbl := Aside.mk (show Below wr.heap.size wr ((wr.alloc (.cells (fltCells x A' c').toArray 50)).alloc (.cells (pktCells (bareP 6 x.id) none 0).toArray 43)) from ((Below.refl _ _).alloc (Nat.le_refl _) _).alloc (by simp) _)
            go_wp2_with (at_builtin; go_must (refine wpList_append_Own (P := Try.prog) _ rfl kPkt (.tmp 30) (.tmp 34) 33 43 rfl (.agg zeroPkt) 184 Try.underlying33 info43 rfl (by decide) (ok := fun b => (ok b ∧ b < w.heap.size) ∨ w.heap.size + 2 ≤ b) (okp := fun b => ok b ∧ b < w.heap.size) (lo := wc.heap.size) (v := u4) (xs := redoL (s.flight.take k)) (ys := [bareP 6 x.id]) rfl ?c0 (A := (some ⟨wr.heap.size + 1, 0, none⟩)) (m := 1) (c := 1) rfl ?c1 ?c2 ?c3 ?c4 ?c5 ?_))
            case c0 => exact HR.out.out.below hbl.out
            case c1 => exact Cf_litAt kPkt (okp := fun b => ok b ∧ b < w.heap.size) (wr.heap.size + 1) (by simp) (pktCells (bareP 6 x.id) none 0) 43 ⟨none, 0, rfl, Sl.nil _ _ _ _⟩
            case c2 => exact fun b hb _ => ⟨.inl hb, fun e => by have := (HR.out.out.ge b e.symm).1; have := hb.2; omega⟩
            case c3 => exact fun b hb => .inr (by have hz := HR.out.below.size; simp at hb; omega)
            case c4 => have hz := HR.out.below.size; simp; omega
            case c5 =>
              have h1 := redoL_len (s.flight.take k)
              rw [List.length_take] at h1
              rw [List.length_singleton]
              omega
            intro v2 w2 hO hg hat
            have HN := Aside.mk (R24.step HR.out hbl.out HX.out HD.out hO hg)
            clear hO hg hat hbl e0 e1 e2 e3 e4 e5 e6 e7 HP HX HR
            go_wp2_with fail
            go_roundw
            case rel => exact ⟨k + 1, by omega, by go_num, HN⟩
            case measure => simp [intOf]; omega
          · have h1' : (x.st == 1) = false := by simpa using h1
            have h2' : (x.st == 2) = false := by simpa using h2
            have HD := Aside.mk (show redo x = [] by simp [redo, h1, h2])
            clear h1 h2
            have HN := Aside.mk (R24.skip (wl := wr.alloc (.cells (fltCells x A' c').toArray 50)) HR.out ((Below.refl _ _).alloc (Nat.le_refl _) _) HX.out HD.out)
            clear HP HX HR
            go_wp2_with fail
            go_roundw
            case rel => exact ⟨k + 1, by omega, by go_num, HN⟩
            case measure => simp [intOf]; omega
      · have hke : k = s.flight.length := by omega
        have hge : decide (k < s.flight.length) = false := by simp; omega
        subst hke
        have hO := HR.out.out
        rw [List.take_length] at hO
        have HO := Aside.mk hO
        have B0r := Aside.mk (B0.out.belowAll HR.out.below); have B1r := Aside.mk (B1.out.belowAll HR.out.below)
        have HBW := Aside.mk (below_all HB0.out HB0.out.size HR.out.below)
        have hsr : wc.heap.size ≤ wr.heap.size := HR.out.below.size
        obtain ⟨b0c, b0f, b0s, b0h⟩ := B0r.out.all
        clear hO hlt hk
        go_wp2_with fail
        refine (refRefill_any s A1 c1 A2 c2 _ c3 A4 c4 (fun b => ok b ∧ b < w.heap.size) wr (H.out.below HBW.out)).mono ?_
        rintro e w1 ⟨vs, vp, rfl, ⟨C1, g1, C2, g2, C3, g3, C4, g4, rfl, hrd⟩, ⟨Bp, dp, rfl, hpk⟩, hb1⟩
        have hD : resumeD s = ((refillD s).1, redoL s.flight ++ (refillD s).2) := rfl
        have q4 := refillFrom_len s.queue s
        have HL := redoL_len s.flight
        change (refillD s).2.length ≤ _ at q4
        generalize refillD s = r at *
        have hwb : w1.heap.size + 1 = (w1.alloc (.cells (sesCells r.1 C1 g1 C2 g2 C3 g3 C4 g4) 27)).heap.size := by simp
        have ha : Below w1.heap.size w1 (w1.alloc (.cells (sesCells r.1 C1 g1 C2 g2 C3 g3 C4 g4) 27)) := (Below.refl _ _).alloc (Nat.le_refl _) _
        have hs1 := hb1.size
        have HD := Aside.mk hD
        have K7 := Aside.mk (Blk.new w1 27 (sesCells r.1 C1 g1 C2 g2 C3 g3 C4 g4))
        have HRD := Aside.mk (hrd.below ha); have HPK := Aside.mk (hpk.below ha)
        have HO1 := Aside.mk ((HO.out.below hb1).below ha)
        have K1 := Aside.mk ((B1r.out.belowAll hb1).alloc (.cells (sesCells r.1 C1 g1 C2 g2 C3 g3 C4 g4) 27))
        have HBA := Aside.mk (below_all (below_all HBW.out HBW.out.size hb1) (below_all HBW.out HBW.out.size hb1).size ha)
        have HUB := Aside.mk (fun b hb => HO.out.ge b hb)
        clear hrd hpk hb1 ha hD b0c b0f b0s b0h
        simp only [sesCells]
        go_upto_region 12 with fail
        simp only [sesCells] at K7 HRD HPK HO1 K1 HBA hwb
        generalize w1.alloc (.cells #[.string r.1.cl, .slice C1 r.1.subs.length g1, .slice C2 r.1.queue.length g2, .slice C3 r.1.flight.length g3, .slice C4 r.1.ids.length g4, .int .i64 r.1.nid, .int .i64 r.1.hd, .int .i64 r.1.snt] 27) = wx at K7 HRD HPK HO1 K1 HBA hwb ⊢
        obtain ⟨k7c, k7f, _, _⟩ := K7.out.all
        obtain ⟨k1c, k1f, k1s, k1h⟩ := K1.out.all
        go_region_law (first | (refine step_append_Own (P := Try.prog) _ (by rfl) kPkt (.tmp 43) (.tmp 44) 33 43 (by rfl) (.agg zeroPkt) 184 Try.underlying33 info43 rfl (by decide) (ok := fun b => (ok b ∧ b < w.heap.size) ∨ w.heap.size + 2 ≤ b) (okp := fun b => ((ok b ∧ b < w.heap.size) ∧ b < wr.heap.size) ∨ wr.heap.size ≤ b) (lo := wc.heap.size) (v := u4) (xs := redoL s.flight) (ys := r.2) (by rfl) (HO1.out.below (Below.refl _ _).drew) (A := Bp) (m := r.2.length) (c := dp) (by rfl) (Kn.C_free (HPK.out.below (Below.refl _ _).drew).2.2.2) (fun b hb _ => ⟨hb.elim (fun h => .inl h.1) (fun h => .inr (by omega)), fun e => (by have := HUB.out b e.symm; rcases hb with hb | hb; (have := hb.1.2; omega); omega)⟩) (fun b hb => .inr (by have hb' := hb; simp at hb'; omega)) (by simp; omega) (by omega) ?_; intro v2 w2 hO hg hat; have hng : ∀ b, b < w.heap.size + 2 ∨ wr.heap.size ≤ b → some b ≠ u4.ownBlock := (fun b hb e => (by have := HUB.out b e.symm; omega)); have k7 := K7.out.drew.grown hg (hng _ (.inr hs1)); have k1 := K1.out.drew.grown hg (hng _ (.inl (by omega))); obtain ⟨k7c', k7f', _, _⟩ := k7.all; obtain ⟨k1c', k1f', k1s', k1h'⟩ := k1.all; have HF := Aside.mk (R24.fin (r := r) HRD.out HBA.out (by omega) hO hg hng (by rw [List.length_append]; omega)); have K1' := Aside.mk k1; clear hO hg hat k7 k1 hng))
        all_goals
          go_wp2_with fail
          refine bodyPost_ret (res_ct rfl _ _ (w.heap.size + 1) 27 _ _ rfl (K1'.out.put _) Try.underlying27 rfl (by kernel_rfl)) rfl ?_
          rw [HD.out]
          exact HF.out _
end Go.Proofs.Ytmeeldcgmfplnaa
