/-
  The walk of the law SessionResumes: its loop.
-/
import Derived.Test.YtmeeldcgmfplnaaW30
set_option linter.unusedVariables false
set_option linter.unusedSimpArgs false
namespace Go.Proofs.Ytmeeldcgmfplnaa
open Go.RowKit Go.BigFrame
attribute [local go_sem] setRow_setCell_same setRow_setCell_other setRow_cell_same setRow_cell_other setRow_frozen setRow_shape
attribute [local go_sem ↓] Go.wp_at_zero Go.wp_at_succ

set_option maxRecDepth 100000 in
set_option maxHeartbeats 8000000 in
theorem resumes_any (xs : List Stp) (A : Option Addr) (c : Nat) (ok : Nat → Prop) (w : World) (h : Sl 96 kStp ok w A c xs) :
    Calls Try.prog 8 #[.slice A xs.length c] w (PostT w) := by
  have hl : xs.length ≤ 140737488355328 := by have := h.2.2.1; omega
  have H := Aside.mk (h.mono (ok' := fun b => b < w.heap.size) (fun b _ hlt => hlt))
  clear h
  go_enter Try.func8, Try.ntmps8
  go_upto_block 0 with (fail)
  go_cut [] (fun wx => ∃ s A1 c1 A2 c2 A3 c3 A4 c4, Inv s ∧ JS s w A1 c1 A2 c2 A3 c3 A4 c4 wx)
  case first =>
    go_wp2_with fail
    go_loopw [4] (fun i wr => ∃ (k : Nat) (s : Ses) (A1 : Option Addr) (c1 : Nat) (A2 : Option Addr) (c2 : Nat) (A3 : Option Addr) (c3 : Nat) (A4 : Option Addr) (c4 : Nat), k ≤ xs.length ∧ i = .int .i64 k ∧ Aside (Inv s) ∧ JS s w A1 c1 A2 c2 A3 c3 A4 c4 wr) (fun i _ => xs.length - (intOf i).toNat)
    case atStart => exact ⟨0, ses0, none, 0, none, 0, none, 0, none, 0, Nat.zero_le _, rfl, ⟨Inv.zero⟩, ⟨Blk.new _ _ _, ses0_rd _ _, (Below.refl _ _).alloc (Nat.le_refl _) _⟩⟩
    case round =>
      obtain ⟨k, s, A1, c1, A2, c2, A3, c3, A4, c4, hk, rfl, HI, hJ⟩ := hrel
      have HJ := Aside.mk hJ
      have hg0 := hJ.b.lt
      by_cases hlt : k < xs.length
      · have hlt' : (k : Int) < (xs.length : Int) := by omega
        have hk0 : (0 : Int) ≤ (k : Int) := by omega
        by_cases h60 : (k : Int) < 60
        · have hx : xs[k]? = some xs[k] := List.getElem?_eq_getElem hlt
          obtain ⟨ad, A', c', rfl, hP, e0, e1, e2, e3, e4, e5, e6, e7, e8⟩ := stp_at (H.out.below hJ.below).2.2.2 hlt hx
          generalize xs[k] = x at hx hP e0 e1 e2 e3 e4 e5 e6 e7 e8
          have HP := Aside.mk hP
          obtain ⟨b0c, b0f, _, _⟩ := hJ.b.all
          clear hx hP hJ
          by_cases hdo : x.doo = 0
          · have hdb : (x.doo == 0) = true := by simpa using hdo
            generalize hD : deliverD s x.m x.online = D
            obtain ⟨t, l, dd⟩ := D
            have HD := Aside.mk hD
            have HIt : Aside (Inv t) := ⟨by have := HI.out.step x; unfold stepR at this; rw [if_pos hdo, hD] at this; exact this⟩
            clear hdo hD
            go_upto_region 6 with fail
            go_region_with (first | (go_at_call 13; refine (deliver_any s A1 c1 A2 c2 A3 c3 A4 c4 x.m A' c' x.online _ _ _ (HJ.out.rd.below (Below.refl _ _).drew) (HP.out.below (Below.refl _ _).drew)).mono ?_; rintro e w1 h1; rw [HD.out] at h1; obtain ⟨vs, vp, rfl, ⟨B1, d1, B2, d2, B3, d3, B4, d4, rfl, hrd⟩, hpk, hb1⟩ := h1; have hb1' : Below wr.heap.size wr w1 := Below.trans (Below.refl _ _).drew hb1; have k0 := HJ.out.b.belowAll hb1'; have HN := Aside.mk (HJ.out.store hb1' hrd); obtain ⟨k0c, k0f, k0s, k0h⟩ := k0.all; clear hrd hpk hb1 hb1' k0))
            all_goals
              go_wp2_with fail
              go_roundw
              case rel => exact ⟨k + 1, t, B1, d1, B2, d2, B3, d3, B4, d4, by omega, by go_num, HIt, HN.out⟩
              case measure => simp [intOf]; omega
          · have hdb : (x.doo == 0) = false := by simpa using hdo
            generalize hD : answerD s x.kind x.id = D
            obtain ⟨t, l⟩ := D
            have HD := Aside.mk hD
            have HIt : Aside (Inv t) := ⟨by have := HI.out.step x; unfold stepR at this; rw [if_neg hdo, hD] at this; exact this⟩
            have hfl : Aside (s.flight.length ≤ 1000) := ⟨by have := HI.out.fl; omega⟩
            clear hdo hD
            go_upto_region 7 with fail
            go_region_with (first | (go_at_call 20; refine (answer_any s A1 c1 A2 c2 A3 c3 A4 c4 x.kind x.id _ _ (HJ.out.rd.below (Below.refl _ _).drew) hfl.out).mono ?_; rintro e w1 h1; rw [HD.out] at h1; obtain ⟨vs, vp, rfl, ⟨B1, d1, B2, d2, B3, d3, B4, d4, rfl, hrd⟩, hpk, hb1⟩ := h1; have hb1' : Below wr.heap.size wr w1 := Below.trans (Below.refl _ _).drew hb1; have k0 := HJ.out.b.belowAll hb1'; have HN := Aside.mk (HJ.out.store hb1' hrd); obtain ⟨k0c, k0f, k0s, k0h⟩ := k0.all; clear hrd hpk hb1 hb1' k0))
            all_goals
              go_wp2_with fail
              go_roundw
              case rel => exact ⟨k + 1, t, B1, d1, B2, d2, B3, d3, B4, d4, by omega, by go_num, HIt, HN.out⟩
              case measure => simp [intOf]; omega
        · have h60' : (60 : Int) ≤ (k : Int) := by omega
          clear hJ
          go_wp2_with fail
          go_meet
          exact ⟨s, A1, c1, A2, c2, A3, c3, A4, c4, HI.out, HJ.out⟩
      · have hge : decide (k < xs.length) = false := by simp; omega
        clear hJ
        go_wp2_with fail
        go_meet
        exact ⟨s, A1, c1, A2, c2, A3, c3, A4, c4, HI.out, HJ.out⟩
  case rest =>
    rename_i K hK
    obtain ⟨s, A1, c1, A2, c2, A3, c3, A4, c4, h1, hJ⟩ := hcut
    exact hK _ _ (resumes_rest _ _ _ _ _ _ _ _ _ _ _ _ _ _ _ _ _ _ _ _ _ _ _ _ _ _ _ _ _ _ _ _ _ _ _ _ _ _ _ _ _ _ _ _ _ _ _ _ _ _ _ _ _ _ _ _ _ _ _ _ _ _ _ _ _ _ _ _ _ _ _ _ _ _ _ _ _ _ _ _ _ _ _ _ _ _ _ _ _ _ _ _ _ _ _ _ _ _ _ _ _ _ _ _ _ _ _ _ _ _ _ _ _ _ _ _ _ _ _ _ _ _ _ _ _ _ _ _ _ _ _ _ _ _ _ _ _ _ _ _ _ _ _ _ _ _ _ _ _ _ _ _ _ _ _ _ _ _ _ _ _ _ _ _ _ _ s A1 c1 A2 c2 A3 c3 A4 c4 w ⟨h1⟩ ⟨hJ⟩)
end Go.Proofs.Ytmeeldcgmfplnaa
