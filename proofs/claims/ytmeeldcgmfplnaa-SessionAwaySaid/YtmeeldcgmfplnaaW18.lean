/-
  The walk of the law SessionAway.
-/
import Derived.Test.YtmeeldcgmfplnaaW17
import Derived.Deep.QuietTactic
import Derived.BigQuiet
set_option linter.unusedVariables false
set_option linter.unusedSimpArgs false
namespace Go.Proofs.Ytmeeldcgmfplnaa
open Go.RowKit Go.BigFrame
attribute [local go_sem] setRow_setCell_same setRow_setCell_other setRow_cell_same setRow_cell_other setRow_frozen setRow_shape
attribute [local go_sem ↓] Go.wp_at_zero Go.wp_at_succ

set_option maxRecDepth 100000 in
set_option maxHeartbeats 8000000 in
theorem away_any (l : List Msg) (A : Option Addr) (c : Nat) (ok : Nat → Prop) (w : World) (h : Sl 64 kMsg ok w A c l) :
    Calls Try.prog 4 #[.slice A l.length c] w (PostT w) := by
  have hl : l.length ≤ 140737488355328 := by have := h.2.2.1; omega
  have H := Aside.mk (h.mono (ok' := fun b => b < w.heap.size) (fun b _ hlt => hlt))
  clear h
  go_enter Try.func4, Try.ntmps4
  go_upto_block 0 with (fail)
  go_cut [4] (fun v wx => ∃ q A1 c1 A2 c2 A3 c3 A4 c4, q.length ≤ 16 ∧ J4 q w v A1 c1 A2 c2 A3 c3 A4 c4 wx)
  case first =>
    go_wp2_with fail
    go_loopw [4, 19] (fun v i wr => ∃ (k : Nat) (q : List Msg) (A1 : Option Addr) (c1 : Nat) (A2 : Option Addr) (c2 : Nat) (A3 : Option Addr) (c3 : Nat) (A4 : Option Addr) (c4 : Nat), k ≤ l.length ∧ i = .int .i64 k ∧ Aside (q = wantL (l.take k)) ∧ J4 q w v A1 c1 A2 c2 A3 c3 A4 c4 wr) (fun _ i _ => l.length - (intOf i).toNat)
    case atStart => exact ⟨0, [], none, 0, none, 0, none, 0, none, 0, Nat.zero_le _, rfl, ⟨by simp [wantL]⟩, ⟨Blk.new _ _ _, ses0_rd _ _, Own.nil _ _ _ _ _, (Below.refl _ _).alloc (Nat.le_refl _) _⟩⟩
    case round =>
      obtain ⟨k, q, A1, c1, A2, c2, A3, c3, A4, c4, hk, rfl, hq, hJ⟩ := hrel
      have hq16 : q.length ≤ 16 := by rw [hq.out]; exact wantL_len _
      obtain ⟨Aw, cw, rfl, _⟩ := hJ.want.reads (bytes := 64) (by omega)
      by_cases hlt : k < l.length
      · have hlt' : (k : Int) < (l.length : Int) := by omega
        have hk0 : (0 : Int) ≤ (k : Int) := by omega
        have hx : l[k]? = some l[k] := List.getElem?_eq_getElem hlt
        have ht := take_snoc l k hlt
        obtain ⟨ad, A', c', rfl, hP, e0, e1, e2, e3, e4⟩ := msg_at (H.out.below hJ.below).2.2.2 hlt hx
        generalize l[k] = x at hx hP e0 e1 e2 e3 e4 ht
        have HP := Aside.mk hP; have HT := Aside.mk ht; have HJ := Aside.mk hJ
        have hg0 := hJ.b.lt
        have hg1 : ¬ w.heap.size = wr.heap.size := by omega
        obtain ⟨b0c, b0f, _, _⟩ := hJ.b.all
        clear hx hP ht hJ
        by_cases h40 : (40 : Int) ≤ (k : Int)
        · go_wp2_with fail
          go_meet
          exact ⟨q, A1, c1, A2, c2, A3, c3, A4, c4, hq16, HJ.out.far ((Below.refl _ _).alloc (Nat.le_refl _) _)⟩
        · have h40' : (k : Int) < 40 := by omega
          clear h40
          by_cases hq1 : x.q = 1
          · have hq1' : (x.q == 1) = true := by simpa using hq1
            by_cases hr : (q.length : Int) < 16
            · have HD := Aside.mk (deliver_away_add q x (.inl hq1) (by omega))
              have HV := Aside.mk (show x.q = 1 ∨ x.q = 2 from .inl hq1)
              clear hq1
              go_wp2_with fail
              refine (deliver_any (awayS q) A1 c1 A2 c2 A3 c3 A4 c4 x A' c' false (fun b => w.heap.size < b ∧ some b ≠ (Value.slice Aw q.length cw).ownBlock) (fun b => b < w.heap.size) _ (HJ.out.rd.below ((Below.refl _ _).alloc (Nat.le_refl _) _)) (HP.out.below ((Below.refl _ _).alloc (Nat.le_refl _) _))).mono ?_
              rintro e w1 h1
              rw [HD.out] at h1
              obtain ⟨vs, vp, rfl, ⟨B1, d1, B2, d2, B3, d3, B4, d4, rfl, hrd⟩, ⟨Bp, dp, rfl, hpk⟩, hb1⟩ := h1
              have D0 := Aside.mk ((HJ.out.b.alloc (.cells (msgCells x A' c').toArray 30)).belowAll hb1)
              have D6 := Aside.mk ((Blk.new wr 30 (msgCells x A' c').toArray).belowAll hb1)
              have hlt0 := D0.out.lt
              have hlt6 := D6.out.lt
              have hne0 : ¬ w.heap.size = w1.heap.size := by omega
              have hne6 : ¬ wr.heap.size = w1.heap.size := by omega
              have hlt0' : w.heap.size < w1.heap.size + 1 := by omega
              have hlt6' : wr.heap.size < w1.heap.size + 1 := by omega
              have hne0' : ¬ w.heap.size = w1.heap.size + 1 := by omega
              have hne6' : ¬ wr.heap.size = w1.heap.size + 1 := by omega
              have HRD := Aside.mk hrd; have HB1 := Aside.mk hb1
              clear b0c b0f e0 e1 e2 e3 e4 hrd hpk hb1
              obtain ⟨b0c, b0f, _, _⟩ := D0.out.all
              obtain ⟨b6c, b6f, _, _⟩ := D6.out.all
              simp only [sesCells, List.length_nil]
              have hbl := Aside.mk (show Below wr.heap.size wr ((w1.alloc (.cells (sesCells (awayS (q ++ [x])) B1 d1 B2 d2 B3 d3 B4 d4) 27)).alloc (.cells (msgCells x A' c').toArray 30)) from ((Below.trans ((Below.refl _ _).alloc (Nat.le_refl _) _) (HB1.out.mono (by simp))).alloc (by omega) _).alloc (by simp; omega) _)
              go_wp2_with (at_builtin; go_must (refine wpList_append_Own (P := Try.prog) _ rfl kMsg (.tmp 55) (.tmp 57) 23 30 rfl (.agg #[.string ⟨#[]⟩, .slice none 0 0, .int .i64 0, .bool false, .int .i64 0]) 64 Try.underlying23 info30 rfl (by decide) (ok := fun b => b ≠ w.heap.size) (okp := fun b => b < w.heap.size) (lo := w.heap.size + 1) (v := .slice Aw q.length cw) (xs := q) (ys := [x]) rfl ?c10 (A := some ⟨w1.heap.size + 1, 0, none⟩) (m := 1) (c := 1) rfl ?c11 ?c12 ?c13 ?c14 ?c15 ?_))
              case c10 => exact HJ.out.want.below hbl.out
              case c11 => exact Cf_litAt kMsg (w1.heap.size + 1) (by simp) (msgCells x A' c') 30 ⟨A', c', rfl, HP.out.below (Below.trans ((Below.refl _ _).alloc (Nat.le_refl _) _) (HB1.out.mono (by simp)) |>.alloc (by omega) _)⟩
              case c12 => exact fun b hb _ => ⟨by omega, fun e => by have := (HJ.out.want.ge b e.symm).1; omega⟩
              case c13 => exact fun b hb => by first | omega | (simp at hb; omega)
              case c14 => first | omega | (simp <;> omega)
              case c15 => first | omega | (simp <;> omega)
              intro v2 w2 hO hg hat
              have HN := Aside.mk (J4.add HJ.out HB1.out HRD.out hO hg (by simpa using hat))
              have k0 := ((D0.out.alloc (.cells (sesCells (awayS (q ++ [x])) B1 d1 B2 d2 B3 d3 B4 d4) 27)).alloc (.cells (msgCells x A' c').toArray 30)).grown hg (fun e => by have := (HJ.out.want.ge _ e.symm).1; omega)
              have k7 := ((Blk.new w1 27 (sesCells (awayS (q ++ [x])) B1 d1 B2 d2 B3 d3 B4 d4)).alloc (.cells (msgCells x A' c').toArray 30)).grown hg (fun e => by have := (HJ.out.want.ge _ e.symm).2; omega)
              clear hO hg hat hbl b0c b0f b6c b6f
              obtain ⟨k0c, k0f, k0s, k0h⟩ := k0.all
              obtain ⟨k7c, k7f, _, _⟩ := k7.all
              clear k0 k7
              go_wp2_with fail
              go_roundw
              case rel => exact ⟨k + 1, q ++ [x], B1, d1, B2, d2, B3, d3, B4, d4, by omega, by go_num, ⟨by rw [HT.out, wantL_add _ _ HV.out (by rw [← hq.out]; omega), ← hq.out]⟩, HN.out⟩
              case measure => simp [intOf]; omega
            · have HD := Aside.mk (deliver_away_full q x (by omega))
              have HV := Aside.mk (show q = wantL (l.take (k + 1)) by rw [HT.out, wantL_full _ _ (by rw [← hq.out]; omega), ← hq.out])
              have hr' : (16 : Int) ≤ (q.length : Int) := by omega
              clear hq1 hr
              go_wp2_with fail
              refine (deliver_any (awayS q) A1 c1 A2 c2 A3 c3 A4 c4 x A' c' false (fun b => w.heap.size < b ∧ some b ≠ (Value.slice Aw q.length cw).ownBlock) (fun b => b < w.heap.size) _ (HJ.out.rd.below ((Below.refl _ _).alloc (Nat.le_refl _) _)) (HP.out.below ((Below.refl _ _).alloc (Nat.le_refl _) _))).mono ?_
              rintro e w1 h1
              rw [HD.out] at h1
              obtain ⟨vs, vp, rfl, ⟨B1, d1, B2, d2, B3, d3, B4, d4, rfl, hrd⟩, ⟨Bp, dp, rfl, hpk⟩, hb1⟩ := h1
              have D0 := Aside.mk ((HJ.out.b.alloc (.cells (msgCells x A' c').toArray 30)).belowAll hb1)
              have D6 := Aside.mk ((Blk.new wr 30 (msgCells x A' c').toArray).belowAll hb1)
              have hlt0 := D0.out.lt
              have hlt6 := D6.out.lt
              have hne0 : ¬ w.heap.size = w1.heap.size := by omega
              have hne6 : ¬ wr.heap.size = w1.heap.size := by omega
              have hlt0' : w.heap.size < w1.heap.size + 1 := by omega
              have hlt6' : wr.heap.size < w1.heap.size + 1 := by omega
              have hne0' : ¬ w.heap.size = w1.heap.size + 1 := by omega
              have hne6' : ¬ wr.heap.size = w1.heap.size + 1 := by omega
              have HRD := Aside.mk hrd; have HB1 := Aside.mk hb1
              clear b0c b0f e0 e1 e2 e3 e4 hrd hpk hb1
              obtain ⟨b0c, b0f, _, _⟩ := D0.out.all
              obtain ⟨b6c, b6f, _, _⟩ := D6.out.all
              simp only [sesCells, List.length_nil]
              have HN := Aside.mk (J4.keep (o7 := .cells (sesCells (awayS q) B1 d1 B2 d2 B3 d3 B4 d4) 27) HJ.out HB1.out HRD.out)
              obtain ⟨_, _, k0s, k0h⟩ := (D0.out.alloc (.cells (sesCells (awayS q) B1 d1 B2 d2 B3 d3 B4 d4) 27)).all
              go_wp2_with fail
              go_roundw
              case rel => exact ⟨k + 1, q, B1, d1, B2, d2, B3, d3, B4, d4, by omega, by go_num, ⟨HV.out⟩, HN.out⟩
              case measure => simp [intOf]; omega
          · have hq1' : (x.q == 1) = false := by simpa using hq1
            by_cases hq2 : x.q = 2
            · have hq2' : (x.q == 2) = true := by simpa using hq2
              by_cases hr : (q.length : Int) < 16
              · have HD := Aside.mk (deliver_away_add q x (.inr hq2) (by omega))
                have HV := Aside.mk (show x.q = 1 ∨ x.q = 2 from .inr hq2)
                clear hq1 hq2
                go_wp2_with fail
                refine (deliver_any (awayS q) A1 c1 A2 c2 A3 c3 A4 c4 x A' c' false (fun b => w.heap.size < b ∧ some b ≠ (Value.slice Aw q.length cw).ownBlock) (fun b => b < w.heap.size) _ (HJ.out.rd.below ((Below.refl _ _).alloc (Nat.le_refl _) _)) (HP.out.below ((Below.refl _ _).alloc (Nat.le_refl _) _))).mono ?_
                rintro e w1 h1
                rw [HD.out] at h1
                obtain ⟨vs, vp, rfl, ⟨B1, d1, B2, d2, B3, d3, B4, d4, rfl, hrd⟩, ⟨Bp, dp, rfl, hpk⟩, hb1⟩ := h1
                have D0 := Aside.mk ((HJ.out.b.alloc (.cells (msgCells x A' c').toArray 30)).belowAll hb1)
                have D6 := Aside.mk ((Blk.new wr 30 (msgCells x A' c').toArray).belowAll hb1)
                have hlt0 := D0.out.lt
                have hlt6 := D6.out.lt
                have hne0 : ¬ w.heap.size = w1.heap.size := by omega
                have hne6 : ¬ wr.heap.size = w1.heap.size := by omega
                have hlt0' : w.heap.size < w1.heap.size + 1 := by omega
                have hlt6' : wr.heap.size < w1.heap.size + 1 := by omega
                have hne0' : ¬ w.heap.size = w1.heap.size + 1 := by omega
                have hne6' : ¬ wr.heap.size = w1.heap.size + 1 := by omega
                have HRD := Aside.mk hrd; have HB1 := Aside.mk hb1
                clear b0c b0f e0 e1 e2 e3 e4 hrd hpk hb1
                obtain ⟨b0c, b0f, _, _⟩ := D0.out.all
                obtain ⟨b6c, b6f, _, _⟩ := D6.out.all
                simp only [sesCells, List.length_nil]
                have hbl := Aside.mk (show Below wr.heap.size wr ((w1.alloc (.cells (sesCells (awayS (q ++ [x])) B1 d1 B2 d2 B3 d3 B4 d4) 27)).alloc (.cells (msgCells x A' c').toArray 30)) from ((Below.trans ((Below.refl _ _).alloc (Nat.le_refl _) _) (HB1.out.mono (by simp))).alloc (by omega) _).alloc (by simp; omega) _)
                go_wp2_with (at_builtin; go_must (refine wpList_append_Own (P := Try.prog) _ rfl kMsg (.tmp 55) (.tmp 57) 23 30 rfl (.agg #[.string ⟨#[]⟩, .slice none 0 0, .int .i64 0, .bool false, .int .i64 0]) 64 Try.underlying23 info30 rfl (by decide) (ok := fun b => b ≠ w.heap.size) (okp := fun b => b < w.heap.size) (lo := w.heap.size + 1) (v := .slice Aw q.length cw) (xs := q) (ys := [x]) rfl ?c30 (A := some ⟨w1.heap.size + 1, 0, none⟩) (m := 1) (c := 1) rfl ?c31 ?c32 ?c33 ?c34 ?c35 ?_))
                case c30 => exact HJ.out.want.below hbl.out
                case c31 => exact Cf_litAt kMsg (w1.heap.size + 1) (by simp) (msgCells x A' c') 30 ⟨A', c', rfl, HP.out.below (Below.trans ((Below.refl _ _).alloc (Nat.le_refl _) _) (HB1.out.mono (by simp)) |>.alloc (by omega) _)⟩
                case c32 => exact fun b hb _ => ⟨by omega, fun e => by have := (HJ.out.want.ge b e.symm).1; omega⟩
                case c33 => exact fun b hb => by first | omega | (simp at hb; omega)
                case c34 => first | omega | (simp <;> omega)
                case c35 => first | omega | (simp <;> omega)
                intro v2 w2 hO hg hat
                have HN := Aside.mk (J4.add HJ.out HB1.out HRD.out hO hg (by simpa using hat))
                have k0 := ((D0.out.alloc (.cells (sesCells (awayS (q ++ [x])) B1 d1 B2 d2 B3 d3 B4 d4) 27)).alloc (.cells (msgCells x A' c').toArray 30)).grown hg (fun e => by have := (HJ.out.want.ge _ e.symm).1; omega)
                have k7 := ((Blk.new w1 27 (sesCells (awayS (q ++ [x])) B1 d1 B2 d2 B3 d3 B4 d4)).alloc (.cells (msgCells x A' c').toArray 30)).grown hg (fun e => by have := (HJ.out.want.ge _ e.symm).2; omega)
                clear hO hg hat hbl b0c b0f b6c b6f
                obtain ⟨k0c, k0f, k0s, k0h⟩ := k0.all
                obtain ⟨k7c, k7f, _, _⟩ := k7.all
                clear k0 k7
                go_wp2_with fail
                go_roundw
                case rel => exact ⟨k + 1, q ++ [x], B1, d1, B2, d2, B3, d3, B4, d4, by omega, by go_num, ⟨by rw [HT.out, wantL_add _ _ HV.out (by rw [← hq.out]; omega), ← hq.out]⟩, HN.out⟩
                case measure => simp [intOf]; omega
              · have HD := Aside.mk (deliver_away_full q x (by omega))
                have HV := Aside.mk (show q = wantL (l.take (k + 1)) by rw [HT.out, wantL_full _ _ (by rw [← hq.out]; omega), ← hq.out])
                have hr' : (16 : Int) ≤ (q.length : Int) := by omega
                clear hq1 hq2 hr
                go_wp2_with fail
                refine (deliver_any (awayS q) A1 c1 A2 c2 A3 c3 A4 c4 x A' c' false (fun b => w.heap.size < b ∧ some b ≠ (Value.slice Aw q.length cw).ownBlock) (fun b => b < w.heap.size) _ (HJ.out.rd.below ((Below.refl _ _).alloc (Nat.le_refl _) _)) (HP.out.below ((Below.refl _ _).alloc (Nat.le_refl _) _))).mono ?_
                rintro e w1 h1
                rw [HD.out] at h1
                obtain ⟨vs, vp, rfl, ⟨B1, d1, B2, d2, B3, d3, B4, d4, rfl, hrd⟩, ⟨Bp, dp, rfl, hpk⟩, hb1⟩ := h1
                have D0 := Aside.mk ((HJ.out.b.alloc (.cells (msgCells x A' c').toArray 30)).belowAll hb1)
                have D6 := Aside.mk ((Blk.new wr 30 (msgCells x A' c').toArray).belowAll hb1)
                have hlt0 := D0.out.lt
                have hlt6 := D6.out.lt
                have hne0 : ¬ w.heap.size = w1.heap.size := by omega
                have hne6 : ¬ wr.heap.size = w1.heap.size := by omega
                have hlt0' : w.heap.size < w1.heap.size + 1 := by omega
                have hlt6' : wr.heap.size < w1.heap.size + 1 := by omega
                have hne0' : ¬ w.heap.size = w1.heap.size + 1 := by omega
                have hne6' : ¬ wr.heap.size = w1.heap.size + 1 := by omega
                have HRD := Aside.mk hrd; have HB1 := Aside.mk hb1
                clear b0c b0f e0 e1 e2 e3 e4 hrd hpk hb1
                obtain ⟨b0c, b0f, _, _⟩ := D0.out.all
                obtain ⟨b6c, b6f, _, _⟩ := D6.out.all
                simp only [sesCells, List.length_nil]
                have HN := Aside.mk (J4.keep (o7 := .cells (sesCells (awayS q) B1 d1 B2 d2 B3 d3 B4 d4) 27) HJ.out HB1.out HRD.out)
                obtain ⟨_, _, k0s, k0h⟩ := (D0.out.alloc (.cells (sesCells (awayS q) B1 d1 B2 d2 B3 d3 B4 d4) 27)).all
                go_wp2_with fail
                go_roundw
                case rel => exact ⟨k + 1, q, B1, d1, B2, d2, B3, d3, B4, d4, by omega, by go_num, ⟨HV.out⟩, HN.out⟩
                case measure => simp [intOf]; omega
            · have hq2' : (x.q == 2) = false := by simpa using hq2
              have HD := Aside.mk (deliver_away_not q x hq1 hq2)
              have HV := Aside.mk (show q = wantL (l.take (k + 1)) by rw [HT.out, wantL_not _ _ hq1 hq2, ← hq.out])
              clear hq1 hq2
              go_wp2_with fail
              refine (deliver_any (awayS q) A1 c1 A2 c2 A3 c3 A4 c4 x A' c' false (fun b => w.heap.size < b ∧ some b ≠ (Value.slice Aw q.length cw).ownBlock) (fun b => b < w.heap.size) _ (HJ.out.rd.below ((Below.refl _ _).alloc (Nat.le_refl _) _)) (HP.out.below ((Below.refl _ _).alloc (Nat.le_refl _) _))).mono ?_
              rintro e w1 h1
              rw [HD.out] at h1
              obtain ⟨vs, vp, rfl, ⟨B1, d1, B2, d2, B3, d3, B4, d4, rfl, hrd⟩, ⟨Bp, dp, rfl, hpk⟩, hb1⟩ := h1
              have D0 := Aside.mk ((HJ.out.b.alloc (.cells (msgCells x A' c').toArray 30)).belowAll hb1)
              have D6 := Aside.mk ((Blk.new wr 30 (msgCells x A' c').toArray).belowAll hb1)
              have hlt0 := D0.out.lt
              have hlt6 := D6.out.lt
              have hne0 : ¬ w.heap.size = w1.heap.size := by omega
              have hne6 : ¬ wr.heap.size = w1.heap.size := by omega
              have hlt0' : w.heap.size < w1.heap.size + 1 := by omega
              have hlt6' : wr.heap.size < w1.heap.size + 1 := by omega
              have hne0' : ¬ w.heap.size = w1.heap.size + 1 := by omega
              have hne6' : ¬ wr.heap.size = w1.heap.size + 1 := by omega
              have HRD := Aside.mk hrd; have HB1 := Aside.mk hb1
              clear b0c b0f e0 e1 e2 e3 e4 hrd hpk hb1
              obtain ⟨b0c, b0f, _, _⟩ := D0.out.all
              obtain ⟨b6c, b6f, _, _⟩ := D6.out.all
              simp only [sesCells, List.length_nil]
              have HN := Aside.mk (J4.keep (o7 := .cells (sesCells (awayS q) B1 d1 B2 d2 B3 d3 B4 d4) 27) HJ.out HB1.out HRD.out)
              obtain ⟨_, _, k0s, k0h⟩ := (D0.out.alloc (.cells (sesCells (awayS q) B1 d1 B2 d2 B3 d3 B4 d4) 27)).all
              go_wp2_with fail
              go_roundw
              case rel => exact ⟨k + 1, q, B1, d1, B2, d2, B3, d3, B4, d4, by omega, by go_num, ⟨HV.out⟩, HN.out⟩
              case measure => simp [intOf]; omega
      · have hge : decide (k < l.length) = false := by simp; omega
        have HJ := Aside.mk hJ
        clear hJ
        go_wp2_with fail
        go_meet
        exact ⟨q, A1, c1, A2, c2, A3, c3, A4, c4, hq16, HJ.out⟩
  case rest =>
    rename_i K hK
    exact hK _ _ (away_rest l A c w hl _ _ _ _ _ _ _ _ _ _ _ _ _ _ _ _ _ _ _ _ _ _ _ _ _ _ _ _ _ _ _ _ _ _ _ _ _ _ _ _ _ _ _ _ _ _ _ _ _ _ _ hcut)
end Go.Proofs.Ytmeeldcgmfplnaa
