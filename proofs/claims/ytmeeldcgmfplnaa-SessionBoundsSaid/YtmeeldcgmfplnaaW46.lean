/-
  The walk of the law SessionBounds, whole.
-/
import Derived.Test.YtmeeldcgmfplnaaW43
import Derived.Test.YtmeeldcgmfplnaaW45
set_option linter.unusedVariables false
set_option linter.unusedSimpArgs false
namespace Go.Proofs.Ytmeeldcgmfplnaa
open Go.RowKit Go.BigFrame
attribute [local go_sem] setRow_setCell_same setRow_setCell_other setRow_cell_same setRow_cell_other setRow_frozen setRow_shape
attribute [local go_sem ↓] Go.wp_at_zero Go.wp_at_succ


set_option maxRecDepth 100000 in
set_option maxHeartbeats 8000000 in
theorem bounds_any (xs : List Stp) (A : Option Addr) (c : Nat) (ok : Nat → Prop) (w : World) (h : Sl 96 kStp ok w A c xs) :
    Calls Try.prog 7 #[.slice A xs.length c] w (PostT w) := by
  have hl : xs.length ≤ 140737488355328 := by have := h.2.2.1; omega
  have H := Aside.mk (h.mono (ok' := fun b => b < w.heap.size) (fun b _ hlt => hlt))
  clear h
  go_enter Try.func7, Try.ntmps7
  go_upto_block 0 with (fail)
  go_cut [] (fun wx => Aside (Below w.heap.size w wx))
  case first =>
    have HJ0 := Aside.mk (show JB ses0 [] w (.slice none 0 0) none 0 none 0 none 0 none 0 (w.alloc (.cells (sesCells ses0 none 0 none 0 none 0 none 0) 27)) from ⟨Blk.new _ _ _, ses0_rd _ _, Own.nil _ _ _ _ _, (Below.refl _ _).alloc (Nat.le_refl _) _⟩)
    go_wp2_with fail
    go_loopw [4, 5, 6] (fun v n6 i wr => ∃ (k : Nat) (s : Ses) (o : List Int) (n : Int) (A1 : Option Addr) (c1 : Nat) (A2 : Option Addr) (c2 : Nat) (A3 : Option Addr) (c3 : Nat) (A4 : Option Addr) (c4 : Nat), k ≤ xs.length ∧ i = .int .i64 k ∧ n6 = .int .u8 n ∧ n ≤ k ∧ Aside (BInv s o n) ∧ Aside (JB s o w v A1 c1 A2 c2 A3 c3 A4 c4 wr)) (fun _ _ i _ => xs.length - (intOf i).toNat)
    case atStart => exact ⟨0, ses0, [], 0, none, 0, none, 0, none, 0, none, 0, Nat.zero_le _, rfl, rfl, by omega, ⟨BInv.start⟩, HJ0⟩
    case round =>
      clear HJ0
      obtain ⟨k, s, o, n, A1, c1, A2, c2, A3, c3, A4, c4, hk, rfl, rfl, hnk, HI, HJ⟩ := hrel
      by_cases hlt : k < xs.length
      · have hlt' : (k : Int) < (xs.length : Int) := by omega
        have hk0 : (0 : Int) ≤ (k : Int) := by omega
        by_cases h200 : (k : Int) < 200
        · have hx : xs[k]? = some xs[k] := List.getElem?_eq_getElem hlt
          obtain ⟨ad, A', c', rfl, hP, e0, e1, e2, e3, e4, e5, e6, e7, e8⟩ := stp_at (H.out.below HJ.out.below).2.2.2 hlt hx
          generalize xs[k] = x at hx hP e0 e1 e2 e3 e4 e5 e6 e7 e8
          have HJa := Aside.mk (HJ.out.far ((Below.refl wr.heap.size wr).alloc (Nat.le_refl _) (.cells (stpCells x A' c').toArray 55)))
          have HK6a := Aside.mk (Blk.new wr 55 (stpCells x A' c').toArray)
          have hn0 : 0 ≤ n := by have := HI.out.cnt; omega
          obtain ⟨Ao, co, hv, hSo⟩ := HJ.out.own.reads (bytes := 1) (by have := HI.out.len; have := HI.out.fl; have := HI.out.qu; omega)
          subst hv
          clear hx hP hSo
          go_upto_region 8 with fail
          obtain ⟨wy, hwy⟩ : ∃ wy, wy = wr.alloc (.cells #[.int .i64 x.doo, .string x.m.t, .slice A' x.m.p.length c', .int .i64 x.m.q, .bool x.m.r, .int .i64 x.m.u, .int .i64 x.kind, .int .i64 x.id, .bool x.online] 55) := ⟨_, rfl⟩
          rw [← hwy]
          have HJy : Aside (JB s o w (.slice Ao o.length co) A1 c1 A2 c2 A3 c3 A4 c4 wy) := by rw [hwy]; exact HJa
          have HK6 : Aside (Blk wy wr.heap.size 55 (stpCells x A' c').toArray) := by rw [hwy]; exact HK6a
          clear hwy e0 e1 e2 e3 e4 e5 e6 e7 e8 HJa HK6a
          have hlt6 : wr.heap.size < wy.heap.size := HK6.out.lt
          have hne6 : ¬ wr.heap.size = wy.heap.size := by omega
          obtain ⟨b6c, b6f, _, _⟩ := HK6.out.all
          obtain ⟨b0c, b0f, _, _⟩ := HJy.out.b.all
          go_upto_block 2 with (fail)
          go_cut [4, 5] (fun v n6 wx => ∃ (t : Ses) (o' : List Int) (n' : Int) (A1 : Option Addr) (c1 : Nat) (A2 : Option Addr) (c2 : Nat) (A3 : Option Addr) (c3 : Nat) (A4 : Option Addr) (c4 : Nat), n6 = .int .u8 n' ∧ n' ≤ k + 1 ∧ Aside (BInv t o' n') ∧ Aside (JB t o' w v A1 c1 A2 c2 A3 c3 A4 c4 wx))
          case first =>
            by_cases hd0 : x.doo = 0
            · have hb0 : (x.doo == 0) = true := by simpa using hd0
              clear hd0
              refine bounds_del _ _ _ _ _ _ _ _ _ _ _ _ _ _ _ _ _ _ _ _ _ _ _ _ _ _ _ _ _ _ _ _ _ _ _ _ _ _ _ _ _ _ _ _ _ _ _ _ _ _ _ _ _ _ _ _ _ _ _ _ _ _ _ _ _ _ _ _ _ _ _ _ _ _ _ _ _ _ _ _ _ _ _ _ _ _ _ _ _ _ _ _ _ _ _ _ _ _ _ _ _ _ _ _ _ _ _ _ _ _ _ _ _ _ _ _ _ _ _ _ _ _ _ _ _ _ _ _ _ _ _ _ _ _ _ _ _ _ _ _ _ _ _ _ _ _ _ _ _ _ _ _ _ _ _ _ _ _ _ _ _ _ _ _ _ _ _ _ _ _ _ _ _ _ _ _ _ _ _ _ _ _ _ _ _ _ _ _ _ _ _ _ _ _ _ _ _ _ _ _ _ _ _ _ _ _ _ _ _ _ _ _ _ _ _ _ _ _ _ _ _ _ _ _ _ _ _ _ _ _ _ _ _ _ _ _ _ _ _ _ _ _ _ _ _ _ x A' c' k s o n Ao co wr.heap.size A1 c1 A2 c2 A3 c3 A4 c4 w wy HI HJy HK6 hn0 hnk h200 hb0 _ ?_
              intros
              rename_i wx hc
              go_wp2_with fail
              go_meet
              exact hc
            · have hb0 : (x.doo == 0) = false := by simpa using hd0
              by_cases hd1 : x.doo = 1
              · have hb1' : (x.doo == 1) = true := by simpa using hd1
                clear hd0 hd1
                refine bounds_ans _ _ _ _ _ _ _ _ _ _ _ _ _ _ _ _ _ _ _ _ _ _ _ _ _ _ _ _ _ _ _ _ _ _ _ _ _ _ _ _ _ _ _ _ _ _ _ _ _ _ _ _ _ _ _ _ _ _ _ _ _ _ _ _ _ _ _ _ _ _ _ _ _ _ _ _ _ _ _ _ _ _ _ _ _ _ _ _ _ _ _ _ _ _ _ _ _ _ _ _ _ _ _ _ _ _ _ _ _ _ _ _ _ _ _ _ _ _ _ _ _ _ _ _ _ _ _ _ _ _ _ _ _ _ _ _ _ _ _ _ _ _ _ _ _ _ _ _ _ _ _ _ _ _ _ _ _ _ _ _ _ _ _ _ _ _ _ _ _ _ _ _ _ _ _ _ _ _ _ _ _ _ _ _ _ _ _ _ _ _ _ _ _ _ _ _ _ _ _ _ _ _ _ _ _ _ _ _ _ _ _ _ _ _ _ _ _ _ _ _ _ _ _ _ _ _ _ _ _ _ _ _ _ _ _ _ _ _ _ _ _ _ _ _ _ _ x A' c' k s o n Ao co wr.heap.size A1 c1 A2 c2 A3 c3 A4 c4 w wy HI HJy HK6 hn0 hnk h200 hb0 hb1' _ ?_
                intros
                rename_i wx hc
                go_wp2_with fail
                go_meet
                exact hc
              · have hb1' : (x.doo == 1) = false := by simpa using hd1
                clear hd0 hd1
                refine bounds_res _ _ _ _ _ _ _ _ _ _ _ _ _ _ _ _ _ _ _ _ _ _ _ _ _ _ _ _ _ _ _ _ _ _ _ _ _ _ _ _ _ _ _ _ _ _ _ _ _ _ _ _ _ _ _ _ _ _ _ _ _ _ _ _ _ _ _ _ _ _ _ _ _ _ _ _ _ _ _ _ _ _ _ _ _ _ _ _ _ _ _ _ _ _ _ _ _ _ _ _ _ _ _ _ _ _ _ _ _ _ _ _ _ _ _ _ _ _ _ _ _ _ _ _ _ _ _ _ _ _ _ _ _ _ _ _ _ _ _ _ _ _ _ _ _ _ _ _ _ _ _ _ _ _ _ _ _ _ _ _ _ _ _ _ _ _ _ _ _ _ _ _ _ _ _ _ _ _ _ _ _ _ _ _ _ _ _ _ _ _ _ _ _ _ _ _ _ _ _ _ _ _ _ _ _ _ _ _ _ _ _ _ _ _ _ _ _ _ _ _ _ _ _ _ _ _ _ _ _ _ _ _ _ _ _ _ _ _ _ _ _ _ _ _ _ _ x A' c' k s o n Ao co wr.heap.size A1 c1 A2 c2 A3 c3 A4 c4 w wy HI HJy HK6 hn0 hnk h200 hb0 hb1' _ ?_
                intros
                rename_i wx hc
                go_wp2_with fail
                go_meet
                exact hc
          case rest =>
            rename_i K hK l1 r1 l2 r2
            clear b0c b0f b6c b6f HJy HK6 hnk hn0
            obtain ⟨t, o', n', B1, d1, B2, d2, B3, d3, B4, d4, rfl, hnk, HIt, HJt⟩ := hcut
            obtain ⟨Ao2, co2, hv, hSx⟩ := HJt.out.own.reads (bytes := 1) (by have := HIt.out.len; have := HIt.out.fl; have := HIt.out.qu; omega)
            clear hSx
            subst hv
            refine hK _ _ ?_
            refine bounds_chk _ _ _ _ _ _ _ _ _ _ _ _ _ _ _ _ _ _ _ _ _ _ _ _ _ _ _ _ _ _ _ _ _ _ _ _ _ _ _ _ _ _ _ _ _ _ _ _ _ _ _ _ _ _ _ _ _ _ _ _ _ _ _ _ _ _ _ _ _ _ _ _ _ _ _ _ _ _ _ _ _ _ _ _ _ _ _ _ _ _ _ _ _ _ _ _ _ _ _ _ _ _ _ _ _ _ _ _ _ _ _ _ _ _ _ _ _ _ _ _ _ _ _ _ _ _ _ _ _ _ _ _ _ _ _ _ _ _ _ _ _ _ _ _ _ _ _ _ _ _ _ _ _ _ _ _ _ _ _ _ _ _ _ _ _ _ _ _ _ _ _ _ _ _ _ _ _ _ _ _ _ _ _ _ _ _ _ _ _ _ _ _ _ _ _ _ _ _ _ _ _ _ _ _ _ _ _ _ _ _ _ _ _ _ _ _ _ _ _ _ _ _ _ _ _ _ _ _ _ _ _ _ _ _ _ _ _ _ _ _ _ _ _ _ _ _ _ _ _ t o' n' Ao2 co2 B1 d1 B2 d2 B3 d3 B4 d4 w _ HIt HJt (by omega) _ ?_
            intros
            rename_i wx hc
            go_wp2_with fail
            go_roundw
            case rel => exact ⟨k + 1, t, o', n', B1, d1, B2, d2, B3, d3, B4, d4, by omega, by go_num, rfl, by omega, HIt, hc⟩
            case measure => simp [intOf]; omega
        · have h200' : (200 : Int) ≤ (k : Int) := by omega
          go_wp2_with fail
          go_meet
          exact ⟨HJ.out.below⟩
      · have hge : decide (k < xs.length) = false := by simp; omega
        go_wp2_with fail
        go_meet
        exact ⟨HJ.out.below⟩
  case rest =>
    have HB := hcut
    go_wp2_with fail
    refine (awake_any _).mono ?_
    rintro e w9 ⟨rfl, hb9⟩
    have HB9 := Aside.mk (below_all HB.out HB.out.size hb9)
    clear hb9
    go_wp2_with fail
    go_ret
    exact ⟨by simp, HB9.out⟩
end Go.Proofs.Ytmeeldcgmfplnaa
