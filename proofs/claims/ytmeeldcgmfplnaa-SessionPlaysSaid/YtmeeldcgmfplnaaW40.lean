/-
  The law SessionPlays: what steps leave, and its walk.
-/
import Derived.Test.YtmeeldcgmfplnaaW37
import Derived.Test.YtmeeldcgmfplnaaW38
import Derived.Test.YtmeeldcgmfplnaaW39
import Derived.Test.YtmeeldcgmfplnaaW30
set_option linter.unusedVariables false
set_option linter.unusedSimpArgs false
namespace Go.Proofs.Ytmeeldcgmfplnaa
open Go.RowKit Go.BigFrame
attribute [local go_sem] setRow_setCell_same setRow_setCell_other setRow_cell_same setRow_cell_other setRow_frozen setRow_shape
attribute [local go_sem ↓] Go.wp_at_zero Go.wp_at_succ

/-- A session that plays. -/
structure PInv (s : Ses) : Prop where
  fl : s.flight.length ≤ 4
  srt : s.ids.Pairwise (· < ·)
theorem PInv.start (cl : ByteArray) : PInv ⟨cl, [], [], [], [], 0, 0, 0⟩ := ⟨by simp, List.Pairwise.nil⟩
theorem PInv.sent {s : Ses} (h : PInv s) (m : Msg) (hl : s.flight.length < 4) : PInv (sendS s m) := ⟨by simp [sendS]; omega, h.srt⟩
theorem PInv.refilled : ∀ (q : List Msg) (s : Ses), PInv s → PInv (refillFrom q s).1
  | [], s, h => ⟨h.fl, h.srt⟩
  | m :: q, s, h => by
    simp only [refillFrom]
    split
    · rename_i hl
      have h1 := h.sent m hl
      exact PInv.refilled q { sendS s m with queue := q, hd := up s.hd } ⟨h1.fl, h1.srt⟩
    · exact ⟨h.fl, h.srt⟩
theorem PInv.less {s : Ses} (h : PInv s) (i : Nat) : PInv (lessS s i) := ⟨Nat.le_trans (List.length_eraseIdx_le _ _) h.fl, h.srt⟩
theorem PInv.done {s : Ses} (h : PInv s) (a : Option Nat) : PInv (doneD s a).1 := by
  cases a with
  | none => exact h
  | some i => exact PInv.refilled _ _ (h.less i)
theorem PInv.delivered {s : Ses} (h : PInv s) (m : Msg) (on : Bool) : PInv (deliverD s m on).1 := by
  unfold deliverD
  split
  · exact h
  · split
    · exact h
    · split
      · rename_i h2
        exact h.sent m h2.2.1
      · split
        · exact h
        · exact ⟨h.fl, h.srt⟩
theorem PInv.answered {s : Ses} (h : PInv s) (kind id : Int) : PInv (answerD s kind id).1 := by
  unfold answerD
  split
  · exact h
  · split
    · exact h.done _
    · split
      · cases hf : s.flight.findIdx? (findP id 38) with
        | none => exact h
        | some i => exact ⟨by show (s.flight.modify i gotF).length ≤ 4; rw [List.length_modify]; exact h.fl, h.srt⟩
      · split
        · exact h.done _
        · split
          · exact ⟨h.fl, h.srt.filter _⟩
          · exact h
theorem insI_sorted {xs : List Int} {id : Int} (hs : xs.Pairwise (· < ·)) (hn : id ∉ xs) : (insI xs (placeT xs id) id).Pairwise (· < ·) := by
  rw [cntI_place hs hn]
  unfold insI cntI
  induction xs with
  | nil => simp
  | cons x xs ih =>
    obtain ⟨h1, h2⟩ := List.pairwise_cons.1 hs
    have hx : x ≠ id := fun e => hn (by simp [e])
    rcases Int.lt_or_le x id with h | h
    · rw [List.filter_cons, if_pos (by simpa using h), List.length_cons, List.take_succ_cons, List.drop_succ_cons, List.cons_append, List.pairwise_cons]
      refine ⟨fun y hy => ?_, ih h2 (fun hm => hn (by simp [hm]))⟩
      rcases List.mem_append.1 hy with hy | hy
      · exact h1 y (List.mem_of_mem_take hy)
      · rcases List.mem_cons.1 hy with rfl | hy
        · exact h
        · exact h1 y (List.mem_of_mem_drop hy)
    · have e : ((x :: xs).filter (fun x => decide (x < id))).length = 0 := by
        rw [List.filter_eq_nil_iff.2]
        · rfl
        · intro y hy
          rcases List.mem_cons.1 hy with rfl | hy
          · simp; omega
          · have := h1 y hy
            simp; omega
      rw [e]
      simp only [List.take_zero, List.drop_zero, List.nil_append]
      rw [List.pairwise_cons]
      refine ⟨fun y hy => ?_, hs⟩
      rcases List.mem_cons.1 hy with rfl | hy
      · omega
      · have := h1 y hy
        omega
theorem PInv.taken {s : Ses} (h : PInv s) (id : Int) : PInv (takeD s id).1 := by
  unfold takeD
  split
  · exact h
  · split
    · exact h
    · rename_i hc
      split
      · exact h
      · exact ⟨h.fl, insI_sorted h.srt (fun hm => hc (List.contains_iff_mem.2 hm))⟩
theorem PInv.resumed {s : Ses} (h : PInv s) : PInv (resumeD s).1 := PInv.refilled s.queue s h

/-- Two sessions in their variables: the program's in new memory, the reference's off the variables. -/
structure JP2 (s t : Ses) (w : World) (A1 : Option Addr) (c1 : Nat) (A2 : Option Addr) (c2 : Nat) (A3 : Option Addr) (c3 : Nat) (A4 : Option Addr) (c4 : Nat) (B1 : Option Addr) (d1 : Nat) (B2 : Option Addr) (d2 : Nat) (B3 : Option Addr) (d3 : Nat) (B4 : Option Addr) (d4 : Nat) (wx : World) : Prop where
  ba : Blk wx w.heap.size 27 (sesCells s A1 c1 A2 c2 A3 c3 A4 c4)
  bb : Blk wx (w.heap.size + 1) 27 (sesCells t B1 d1 B2 d2 B3 d3 B4 d4)
  ra : RdSes (fun b => w.heap.size + 1 < b) wx s A1 c1 A2 c2 A3 c3 A4 c4
  rb : RdSes (fun b => b < w.heap.size ∨ w.heap.size + 1 < b) wx t B1 d1 B2 d2 B3 d3 B4 d4
  below : Below w.heap.size w wx
section
variable {s t s' : Ses} {w wx w1 : World} {A1 : Option Addr} {c1 : Nat} {A2 : Option Addr} {c2 : Nat} {A3 : Option Addr} {c3 : Nat} {A4 : Option Addr} {c4 : Nat} {B1 : Option Addr} {d1 : Nat} {B2 : Option Addr} {d2 : Nat} {B3 : Option Addr} {d3 : Nat} {B4 : Option Addr} {d4 : Nat} {C1 : Option Addr} {e1 : Nat} {C2 : Option Addr} {e2 : Nat} {C3 : Option Addr} {e3 : Nat} {C4 : Option Addr} {e4 : Nat}
theorem JP2.far (h : JP2 s t w A1 c1 A2 c2 A3 c3 A4 c4 B1 d1 B2 d2 B3 d3 B4 d4 wx) (hb : Below wx.heap.size wx w1) : JP2 s t w A1 c1 A2 c2 A3 c3 A4 c4 B1 d1 B2 d2 B3 d3 B4 d4 w1 :=
  ⟨h.ba.belowAll hb, h.bb.belowAll hb, h.ra.below hb, h.rb.below hb, below_all h.below h.below.size hb⟩
theorem JP2.storeA (h : JP2 s t w A1 c1 A2 c2 A3 c3 A4 c4 B1 d1 B2 d2 B3 d3 B4 d4 wx) (hb : Below wx.heap.size wx w1) (hrd : RdSes (fun b => wx.heap.size ≤ b) w1 s' C1 e1 C2 e2 C3 e3 C4 e4) : JP2 s' t w C1 e1 C2 e2 C3 e3 C4 e4 B1 d1 B2 d2 B3 d3 B4 d4 (w1.setRow w.heap.size (sesCells s' C1 e1 C2 e2 C3 e3 C4 e4)) := by
  have hlt := h.bb.lt
  exact ⟨(h.ba.belowAll hb).put _, (h.bb.belowAll hb).other (by omega) _, (hrd.kp ((Kp.refl _ _).put (fun b hb => by omega) _)).mono (fun b hb _ => by omega), (h.rb.below hb).kp ((Kp.refl _ _).put (fun b hb => by omega) _), below_put (below_all h.below h.below.size hb) (Nat.le_refl _) _⟩
theorem JP2.storeB (h : JP2 s t w A1 c1 A2 c2 A3 c3 A4 c4 B1 d1 B2 d2 B3 d3 B4 d4 wx) (hb : Below wx.heap.size wx w1) (hrd : RdSes (fun b => ((b < w.heap.size ∨ w.heap.size + 1 < b) ∧ b < wx.heap.size) ∨ wx.heap.size ≤ b) w1 s' C1 e1 C2 e2 C3 e3 C4 e4) : JP2 s s' w A1 c1 A2 c2 A3 c3 A4 c4 C1 e1 C2 e2 C3 e3 C4 e4 (w1.setRow (w.heap.size + 1) (sesCells s' C1 e1 C2 e2 C3 e3 C4 e4)) := by
  have hlt := h.bb.lt
  exact ⟨(h.ba.belowAll hb).other (by omega) _, (h.bb.belowAll hb).put _, (h.ra.below hb).kp ((Kp.refl _ _).put (fun b hb => by omega) _), (hrd.kp ((Kp.refl _ _).put (fun b hb => by omega) _)).mono (fun b hb _ => by omega), below_put (below_all h.below h.below.size hb) (by omega) _⟩
end

set_option maxRecDepth 100000 in
set_option maxHeartbeats 8000000 in
theorem plays_any (xs : List Stp) (A : Option Addr) (c : Nat) (ok : Nat → Prop) (w : World) (h : Sl 96 kStp ok w A c xs) :
    Calls Try.prog 10 #[.slice A xs.length c] w (PostT w) := by
  have hl : xs.length ≤ 140737488355328 := by have := h.2.2.1; omega
  have H := Aside.mk (h.mono (ok' := fun b => b < w.heap.size) (fun b _ hlt => hlt))
  clear h
  have HJ0 := Aside.mk (show JP2 ⟨⟨#[99]⟩, [], [], [], [], 0, 0, 0⟩ ⟨⟨#[99]⟩, [], [], [], [], 0, 0, 0⟩ w none 0 none 0 none 0 none 0 none 0 none 0 none 0 none 0 ((w.alloc (.cells (sesCells ⟨⟨#[99]⟩, [], [], [], [], 0, 0, 0⟩ none 0 none 0 none 0 none 0) 27)).alloc (.cells (sesCells ⟨⟨#[99]⟩, [], [], [], [], 0, 0, 0⟩ none 0 none 0 none 0 none 0) 27)) from
    ⟨(Blk.new w 27 _).alloc _, Blk.newAt _ _ (by simp) 27 _, ⟨Sl.nil _ _ _ _, Sl.nil _ _ _ _, Sl.nil _ _ _ _, Sl.nil _ _ _ _⟩, ⟨Sl.nil _ _ _ _, Sl.nil _ _ _ _, Sl.nil _ _ _ _, Sl.nil _ _ _ _⟩, ((Below.refl _ _).alloc (Nat.le_refl _) _).alloc (by simp) _⟩)
  go_enter Try.func10, Try.ntmps10
  go_upto_block 0 with (fail)
  go_cut [] (fun wx => Aside (Below w.heap.size w wx))
  case first =>
    go_wp2_with fail
    go_loopw [5] (fun i wr => ∃ (k : Nat) (s : Ses) (A1 : Option Addr) (c1 : Nat) (A2 : Option Addr) (c2 : Nat) (A3 : Option Addr) (c3 : Nat) (A4 : Option Addr) (c4 : Nat) (B1 : Option Addr) (d1 : Nat) (B2 : Option Addr) (d2 : Nat) (B3 : Option Addr) (d3 : Nat) (B4 : Option Addr) (d4 : Nat), k ≤ xs.length ∧ i = .int .i64 k ∧ Aside (PInv s) ∧ Aside (JP2 s s w A1 c1 A2 c2 A3 c3 A4 c4 B1 d1 B2 d2 B3 d3 B4 d4 wr)) (fun i _ => xs.length - (intOf i).toNat)
    case atStart => exact ⟨0, _, none, 0, none, 0, none, 0, none, 0, none, 0, none, 0, none, 0, none, 0, Nat.zero_le _, rfl, ⟨PInv.start _⟩, HJ0⟩
    case round =>
      clear HJ0
      obtain ⟨k, s, A1, c1, A2, c2, A3, c3, A4, c4, B1, d1, B2, d2, B3, d3, B4, d4, hk, rfl, HI, HJ⟩ := hrel
      by_cases hlt : k < xs.length
      · have hlt' : (k : Int) < (xs.length : Int) := by omega
        have hk0 : (0 : Int) ≤ (k : Int) := by omega
        by_cases h100 : (k : Int) < 100
        · have hx : xs[k]? = some xs[k] := List.getElem?_eq_getElem hlt
          obtain ⟨ad, A', c', rfl, hP, e0, e1, e2, e3, e4, e5, e6, e7, e8⟩ := stp_at (H.out.below HJ.out.below).2.2.2 hlt hx
          generalize xs[k] = x at hx hP e0 e1 e2 e3 e4 e5 e6 e7 e8
          have ha : Below wr.heap.size wr (wr.alloc (.cells (stpCells x A' c').toArray 55)) := (Below.refl _ _).alloc (Nat.le_refl _) _
          have HPx := Aside.mk (hP.below ha)
          have HJy := Aside.mk (HJ.out.far ha)
          have HK6 := Aside.mk (Blk.new wr 55 (stpCells x A' c').toArray)
          have hlw : w.heap.size + 1 < wr.heap.size := HJ.out.bb.lt
          clear hx hP ha
          go_upto_region 6 with fail
          obtain ⟨wy, hwy⟩ : ∃ wy, wy = wr.alloc (.cells #[.int .i64 x.doo, .string x.m.t, .slice A' x.m.p.length c', .int .i64 x.m.q, .bool x.m.r, .int .i64 x.m.u, .int .i64 x.kind, .int .i64 x.id, .bool x.online] 55) := ⟨_, rfl⟩
          rw [← hwy]
          replace HPx : Aside (Sl 1 kU8 (fun b => b < w.heap.size) wy A' c' x.m.p) := by rw [hwy]; exact HPx
          replace HJy : Aside (JP2 s s w A1 c1 A2 c2 A3 c3 A4 c4 B1 d1 B2 d2 B3 d3 B4 d4 wy) := by rw [hwy]; exact HJy
          replace HK6 : Aside (Blk wy wr.heap.size 55 (stpCells x A' c').toArray) := by rw [hwy]; exact HK6
          clear hwy e0 e1 e2 e3 e4 e5 e6 e7 e8
          obtain ⟨b6c, b6f, _, _⟩ := HK6.out.all
          obtain ⟨b0c, b0f, _, _⟩ := HJy.out.ba.all
          obtain ⟨b1c, b1f, _, _⟩ := HJy.out.bb.all
          go_upto_block 2 with (fail)
          go_cut [7, 8, 9, 10] (fun v7 v8 v9 v10 wx => ∃ (s' : Ses) (l : List Pkt) (d : Bool) (A1 : Option Addr) (c1 : Nat) (A2 : Option Addr) (c2 : Nat) (A3 : Option Addr) (c3 : Nat) (A4 : Option Addr) (c4 : Nat) (B1 : Option Addr) (d1 : Nat) (B2 : Option Addr) (d2 : Nat) (B3 : Option Addr) (d3 : Nat) (B4 : Option Addr) (d4 : Nat) (Ap : Option Addr) (cp : Nat) (Bp : Option Addr) (dp : Nat), v7 = .slice Ap l.length cp ∧ v8 = .slice Bp l.length dp ∧ v9 = .bool d ∧ v10 = .bool d ∧ Aside (PInv s') ∧ Aside (JP2 s' s' w A1 c1 A2 c2 A3 c3 A4 c4 B1 d1 B2 d2 B3 d3 B4 d4 wx) ∧ Aside (Sl 184 kPkt (fun b => w.heap.size + 1 < b) wx Ap cp l) ∧ Aside (Sl 184 kPkt (fun b => b < w.heap.size ∨ w.heap.size + 1 < b) wx Bp dp l))
          case first =>
            by_cases hd0 : x.doo = 0
            · have hb0 : (x.doo == 0) = true := by simpa using hd0
              clear hd0
              generalize hD : deliverD s x.m x.online = D
              obtain ⟨t, l, d⟩ := D
              have HD := Aside.mk hD
              have HIt : Aside (PInv t) := ⟨by have := HI.out.delivered x.m x.online; rwa [hD] at this⟩
              clear hD
              go_wp2_with fail
              refine (deliver_any s A1 c1 A2 c2 A3 c3 A4 c4 x.m A' c' x.online _ _ _ HJy.out.ra HPx.out).mono ?_
              rintro e w1 h1
              rw [HD.out] at h1
              obtain ⟨vs, vp, rfl, ⟨C1, e1, C2, e2, C3, e3, C4, e4, rfl, hrd⟩, ⟨Ap, cp, rfl, hpk⟩, hb1⟩ := h1
              dsimp only at hrd hpk
              have k0 := HJy.out.ba.belowAll hb1
              have hlt1 := HJy.out.bb.lt
              clear b0c b0f b1c b1f b6c b6f
              obtain ⟨k0c, k0f, k0s, k0h⟩ := k0.all
              simp only [sesCells]
              go_upto_region 13 with fail
              clear k0c k0f k0s k0h k0
              obtain ⟨wz, hwz⟩ : ∃ wz, wz = w1.setRow w.heap.size #[.string t.cl, .slice C1 t.subs.length e1, .slice C2 t.queue.length e2, .slice C3 t.flight.length e3, .slice C4 t.ids.length e4, .int .i64 t.nid, .int .i64 t.hd, .int .i64 t.snt] := ⟨_, rfl⟩
              rw [← hwz]
              have HJ1 := Aside.mk (show JP2 t s w C1 e1 C2 e2 C3 e3 C4 e4 B1 d1 B2 d2 B3 d3 B4 d4 wz by rw [hwz]; exact HJy.out.storeA hb1 hrd)
              have hkz : ∀ {P : Nat → Prop}, (∀ b, P b → b ≠ w.heap.size) → Kp P w1 wz := fun hP => by rw [hwz]; exact (Kp.refl _ _).put hP _
              have K6 := Aside.mk (show Blk wz wr.heap.size 55 (stpCells x A' c').toArray by rw [hwz]; exact (HK6.out.belowAll hb1).other (by omega) _)
              have HAP := Aside.mk ((hpk.kp (hkz (fun b hb => by have hb' : wy.heap.size ≤ b := hb; omega))).mono (ok' := fun b => w.heap.size + 1 < b) (fun b hb _ => by have hb' : wy.heap.size ≤ b := hb; omega))
              have HPk := Aside.mk (((HPx.out.below hb1).kp (hkz (fun b hb => by omega))).mono (ok' := fun b => b < w.heap.size ∨ w.heap.size + 1 < b) (fun b hb _ => .inl hb))
              obtain ⟨b1c, b1f, _, _⟩ := HJ1.out.bb.all
              obtain ⟨b6c, b6f, _, _⟩ := K6.out.all
              clear hwz hkz hrd hb1 hpk
              go_wp2_with fail
              refine (refDeliverIn_any s B1 d1 B2 d2 B3 d3 B4 d4 x.m A' c' x.online (fun b => b < w.heap.size ∨ w.heap.size + 1 < b) _ HJ1.out.rb HPk.out).mono ?_
              rintro e w2 h2
              rw [HD.out] at h2
              obtain ⟨vs, vp, rfl, ⟨D1, g1, D2, g2, D3, g3, D4, g4, rfl, hrd⟩, ⟨Bp, dp, rfl, hqk⟩, hb2⟩ := h2
              dsimp only at hrd hqk
              have k1 := HJ1.out.bb.belowAll hb2
              obtain ⟨k1c, k1f, k1s, k1h⟩ := k1.all
              have hlt2 := HJ1.out.bb.lt
              have HJ2 := Aside.mk (HJ1.out.storeB hb2 hrd)
              have HAP2 := Aside.mk (fun a => (HAP.out.below hb2).kp ((Kp.refl _ _).put (g := w.heap.size + 1) (fun b hb => by omega) a))
              have HBP2 := Aside.mk (fun a => (hqk.mono (ok' := fun b => b < w.heap.size ∨ w.heap.size + 1 < b) (fun b hb _ => by have hb' : ((b < w.heap.size ∨ w.heap.size + 1 < b) ∧ b < wz.heap.size) ∨ wz.heap.size ≤ b := hb; omega)).kp ((Kp.refl _ _).put (g := w.heap.size + 1) (fun b hb => by omega) a))
              clear k1 hrd hb2 hqk b1c b1f b6c b6f
              simp only [sesCells]
              go_wp2_with fail
              go_meet
              exact ⟨t, l, d, C1, e1, C2, e2, C3, e3, C4, e4, D1, g1, D2, g2, D3, g3, D4, g4, Ap, cp, Bp, dp, rfl, rfl, rfl, rfl, HIt, HJ2, ⟨HAP2.out _⟩, ⟨HBP2.out _⟩⟩
            · have hb0 : (x.doo == 0) = false := by simpa using hd0
              by_cases hd1 : x.doo = 1
              · have hb1' : (x.doo == 1) = true := by simpa using hd1
                clear hd0 hd1
                generalize hD : answerD s x.kind x.id = D
                obtain ⟨t, l⟩ := D
                have HD := Aside.mk hD
                have HIt : Aside (PInv t) := ⟨by have := HI.out.answered x.kind x.id; rwa [hD] at this⟩
                clear hD
                go_wp2_with fail
                refine (answer_any s A1 c1 A2 c2 A3 c3 A4 c4 x.kind x.id _ _ HJy.out.ra (by have := HI.out.fl; omega)).mono ?_
                rintro e w1 h1
                rw [HD.out] at h1
                obtain ⟨vs, vp, rfl, ⟨C1, e1, C2, e2, C3, e3, C4, e4, rfl, hrd⟩, ⟨Ap, cp, rfl, hpk⟩, hb1⟩ := h1
                dsimp only at hrd hpk
                have k0 := HJy.out.ba.belowAll hb1
                have hlt1 := HJy.out.bb.lt
                clear b0c b0f b1c b1f b6c b6f
                obtain ⟨k0c, k0f, k0s, k0h⟩ := k0.all
                simp only [sesCells]
                go_upto_region 16 with fail
                clear k0c k0f k0s k0h k0
                obtain ⟨wz, hwz⟩ : ∃ wz, wz = w1.setRow w.heap.size #[.string t.cl, .slice C1 t.subs.length e1, .slice C2 t.queue.length e2, .slice C3 t.flight.length e3, .slice C4 t.ids.length e4, .int .i64 t.nid, .int .i64 t.hd, .int .i64 t.snt] := ⟨_, rfl⟩
                rw [← hwz]
                have HJ1 := Aside.mk (show JP2 t s w C1 e1 C2 e2 C3 e3 C4 e4 B1 d1 B2 d2 B3 d3 B4 d4 wz by rw [hwz]; exact HJy.out.storeA hb1 hrd)
                have hkz : ∀ {P : Nat → Prop}, (∀ b, P b → b ≠ w.heap.size) → Kp P w1 wz := fun hP => by rw [hwz]; exact (Kp.refl _ _).put hP _
                have K6 := Aside.mk (show Blk wz wr.heap.size 55 (stpCells x A' c').toArray by rw [hwz]; exact (HK6.out.belowAll hb1).other (by omega) _)
                have HAP := Aside.mk ((hpk.kp (hkz (fun b hb => by have hb' : wy.heap.size ≤ b := hb; omega))).mono (ok' := fun b => w.heap.size + 1 < b) (fun b hb _ => by have hb' : wy.heap.size ≤ b := hb; omega))
                obtain ⟨b1c, b1f, _, _⟩ := HJ1.out.bb.all
                obtain ⟨b6c, b6f, _, _⟩ := K6.out.all
                clear hwz hkz hrd hb1 hpk
                go_wp2_with fail
                refine (refAnswer_any s B1 d1 B2 d2 B3 d3 B4 d4 x.kind x.id (fun b => b < w.heap.size ∨ w.heap.size + 1 < b) _ HJ1.out.rb).mono ?_
                rintro e w2 h2
                rw [HD.out] at h2
                obtain ⟨vs, vp, rfl, ⟨D1, g1, D2, g2, D3, g3, D4, g4, rfl, hrd⟩, ⟨Bp, dp, rfl, hqk⟩, hb2⟩ := h2
                dsimp only at hrd hqk
                have k1 := HJ1.out.bb.belowAll hb2
                obtain ⟨k1c, k1f, k1s, k1h⟩ := k1.all
                have hlt2 := HJ1.out.bb.lt
                have HJ2 := Aside.mk (HJ1.out.storeB hb2 hrd)
                have HAP2 := Aside.mk (fun a => (HAP.out.below hb2).kp ((Kp.refl _ _).put (g := w.heap.size + 1) (fun b hb => by omega) a))
                have HBP2 := Aside.mk (fun a => (hqk.mono (ok' := fun b => b < w.heap.size ∨ w.heap.size + 1 < b) (fun b hb _ => by have hb' : ((b < w.heap.size ∨ w.heap.size + 1 < b) ∧ b < wz.heap.size) ∨ wz.heap.size ≤ b := hb; omega)).kp ((Kp.refl _ _).put (g := w.heap.size + 1) (fun b hb => by omega) a))
                clear k1 hrd hb2 hqk b1c b1f b6c b6f
                simp only [sesCells]
                go_wp2_with fail
                go_meet
                exact ⟨t, l, false, C1, e1, C2, e2, C3, e3, C4, e4, D1, g1, D2, g2, D3, g3, D4, g4, Ap, cp, Bp, dp, rfl, rfl, rfl, rfl, HIt, HJ2, ⟨HAP2.out _⟩, ⟨HBP2.out _⟩⟩
              · have hb1' : (x.doo == 1) = false := by simpa using hd1
                by_cases hd2 : x.doo = 2
                · have hb2' : (x.doo == 2) = true := by simpa using hd2
                  clear hd0 hd1 hd2
                  generalize hD : takeD s x.id = D
                  obtain ⟨t, d, full⟩ := D
                  have HD := Aside.mk hD
                  have HIt : Aside (PInv t) := ⟨by have := HI.out.taken x.id; rwa [hD] at this⟩
                  clear hD
                  go_wp2_with fail
                  refine (take_any s A1 c1 A2 c2 A3 c3 A4 c4 x.id _ _ HJy.out.ra (by have := HI.out.fl; omega)).mono ?_
                  rintro e w1 h1
                  rw [HD.out] at h1
                  obtain ⟨vs, rfl, ⟨C1, e1, C2, e2, C3, e3, C4, e4, rfl, hrd⟩, hb1⟩ := h1
                  dsimp only at hrd
                  have k0 := HJy.out.ba.belowAll hb1
                  have hlt1 := HJy.out.bb.lt
                  clear b0c b0f b1c b1f b6c b6f
                  obtain ⟨k0c, k0f, k0s, k0h⟩ := k0.all
                  simp only [sesCells]
                  go_upto_region 19 with fail
                  clear k0c k0f k0s k0h k0
                  obtain ⟨wz, hwz⟩ : ∃ wz, wz = w1.setRow w.heap.size #[.string t.cl, .slice C1 t.subs.length e1, .slice C2 t.queue.length e2, .slice C3 t.flight.length e3, .slice C4 t.ids.length e4, .int .i64 t.nid, .int .i64 t.hd, .int .i64 t.snt] := ⟨_, rfl⟩
                  rw [← hwz]
                  have HJ1 := Aside.mk (show JP2 t s w C1 e1 C2 e2 C3 e3 C4 e4 B1 d1 B2 d2 B3 d3 B4 d4 wz by rw [hwz]; exact HJy.out.storeA hb1 hrd)
                  have hkz : ∀ {P : Nat → Prop}, (∀ b, P b → b ≠ w.heap.size) → Kp P w1 wz := fun hP => by rw [hwz]; exact (Kp.refl _ _).put hP _
                  have K6 := Aside.mk (show Blk wz wr.heap.size 55 (stpCells x A' c').toArray by rw [hwz]; exact (HK6.out.belowAll hb1).other (by omega) _)
                  obtain ⟨b1c, b1f, _, _⟩ := HJ1.out.bb.all
                  obtain ⟨b6c, b6f, _, _⟩ := K6.out.all
                  clear hwz hkz hrd hb1
                  go_wp2_with fail
                  refine (refTake_any s B1 d1 B2 d2 B3 d3 B4 d4 x.id (fun b => b < w.heap.size ∨ w.heap.size + 1 < b) _ HJ1.out.rb HI.out.srt).mono ?_
                  rintro e w2 h2
                  rw [HD.out] at h2
                  obtain ⟨vs, rfl, ⟨D1, g1, D2, g2, D3, g3, D4, g4, rfl, hrd⟩, hb2⟩ := h2
                  dsimp only at hrd
                  have k1 := HJ1.out.bb.belowAll hb2
                  obtain ⟨k1c, k1f, k1s, k1h⟩ := k1.all
                  have hlt2 := HJ1.out.bb.lt
                  have HJ2 := Aside.mk (HJ1.out.storeB hb2 hrd)
                  clear k1 hrd hb2 b1c b1f b6c b6f
                  simp only [sesCells]
                  go_wp2_with fail
                  go_meet
                  exact ⟨t, [], d, C1, e1, C2, e2, C3, e3, C4, e4, D1, g1, D2, g2, D3, g3, D4, g4, none, 0, none, 0, rfl, rfl, rfl, rfl, HIt, HJ2, ⟨Sl.nil _ _ _ _⟩, ⟨Sl.nil _ _ _ _⟩⟩
                · have hb2' : (x.doo == 2) = false := by simpa using hd2
                  clear hd0 hd1 hd2
                  generalize hD : resumeD s = D
                  obtain ⟨t, l⟩ := D
                  have HD := Aside.mk hD
                  have HIt : Aside (PInv t) := ⟨by have := HI.out.resumed; rwa [hD] at this⟩
                  clear hD
                  go_wp2_with fail
                  refine (resume_any s A1 c1 A2 c2 A3 c3 A4 c4 _ _ HJy.out.ra (by have := HI.out.fl; omega)).mono ?_
                  rintro e w1 h1
                  rw [HD.out] at h1
                  obtain ⟨vs, vp, rfl, ⟨C1, e1, C2, e2, C3, e3, C4, e4, rfl, hrd⟩, ⟨Ap, cp, rfl, hpk⟩, hb1⟩ := h1
                  dsimp only at hrd hpk
                  have k0 := HJy.out.ba.belowAll hb1
                  have hlt1 := HJy.out.bb.lt
                  clear b0c b0f b1c b1f b6c b6f
                  obtain ⟨k0c, k0f, k0s, k0h⟩ := k0.all
                  simp only [sesCells]
                  go_upto_region 10 with fail
                  clear k0c k0f k0s k0h k0
                  obtain ⟨wz, hwz⟩ : ∃ wz, wz = w1.setRow w.heap.size #[.string t.cl, .slice C1 t.subs.length e1, .slice C2 t.queue.length e2, .slice C3 t.flight.length e3, .slice C4 t.ids.length e4, .int .i64 t.nid, .int .i64 t.hd, .int .i64 t.snt] := ⟨_, rfl⟩
                  rw [← hwz]
                  have HJ1 := Aside.mk (show JP2 t s w C1 e1 C2 e2 C3 e3 C4 e4 B1 d1 B2 d2 B3 d3 B4 d4 wz by rw [hwz]; exact HJy.out.storeA hb1 hrd)
                  have hkz : ∀ {P : Nat → Prop}, (∀ b, P b → b ≠ w.heap.size) → Kp P w1 wz := fun hP => by rw [hwz]; exact (Kp.refl _ _).put hP _
                  have K6 := Aside.mk (show Blk wz wr.heap.size 55 (stpCells x A' c').toArray by rw [hwz]; exact (HK6.out.belowAll hb1).other (by omega) _)
                  have HAP := Aside.mk ((hpk.kp (hkz (fun b hb => by have hb' : wy.heap.size ≤ b := hb; omega))).mono (ok' := fun b => w.heap.size + 1 < b) (fun b hb _ => by have hb' : wy.heap.size ≤ b := hb; omega))
                  obtain ⟨b1c, b1f, _, _⟩ := HJ1.out.bb.all
                  obtain ⟨b6c, b6f, _, _⟩ := K6.out.all
                  clear hwz hkz hrd hb1 hpk
                  go_wp2_with fail
                  refine (refResume_any s B1 d1 B2 d2 B3 d3 B4 d4 (fun b => b < w.heap.size ∨ w.heap.size + 1 < b) _ HJ1.out.rb (by have := HI.out.fl; omega)).mono ?_
                  rintro e w2 h2
                  rw [HD.out] at h2
                  obtain ⟨vs, vp, rfl, ⟨D1, g1, D2, g2, D3, g3, D4, g4, rfl, hrd⟩, ⟨Bp, dp, rfl, hqk⟩, hb2⟩ := h2
                  dsimp only at hrd hqk
                  have k1 := HJ1.out.bb.belowAll hb2
                  obtain ⟨k1c, k1f, k1s, k1h⟩ := k1.all
                  have hlt2 := HJ1.out.bb.lt
                  have HJ2 := Aside.mk (HJ1.out.storeB hb2 hrd)
                  have HAP2 := Aside.mk (fun a => (HAP.out.below hb2).kp ((Kp.refl _ _).put (g := w.heap.size + 1) (fun b hb => by omega) a))
                  have HBP2 := Aside.mk (fun a => (hqk.mono (ok' := fun b => b < w.heap.size ∨ w.heap.size + 1 < b) (fun b hb _ => by have hb' : ((b < w.heap.size ∨ w.heap.size + 1 < b) ∧ b < wz.heap.size) ∨ wz.heap.size ≤ b := hb; omega)).kp ((Kp.refl _ _).put (g := w.heap.size + 1) (fun b hb => by omega) a))
                  clear k1 hrd hb2 hqk b1c b1f b6c b6f
                  simp only [sesCells]
                  go_wp2_with fail
                  go_meet
                  exact ⟨t, l, false, C1, e1, C2, e2, C3, e3, C4, e4, D1, g1, D2, g2, D3, g3, D4, g4, Ap, cp, Bp, dp, rfl, rfl, rfl, rfl, HIt, HJ2, ⟨HAP2.out _⟩, ⟨HBP2.out _⟩⟩
          case rest =>
            clear b0c b0f b1c b1f b6c b6f HPx HJy HK6
            obtain ⟨t, l, d, C1, e1, C2, e2, C3, e3, C4, e4, D1, g1, D2, g2, D3, g3, D4, g4, Ap, cp, Bp, dp, rfl, rfl, rfl, rfl, HIt, HJt, HAP, HBP⟩ := hcut
            obtain ⟨b0c, b0f, _, _⟩ := HJt.out.ba.all
            obtain ⟨b1c, b1f, _, _⟩ := HJt.out.bb.all
            have hdd : (d != d) = false := by simp
            go_wp2_with fail
            refine (sameSession_any t C1 e1 C2 e2 C3 e3 C4 e4 D1 g1 D2 g2 D3 g3 D4 g4 _ _ _ HJt.out.ra HJt.out.rb).mono ?_
            rintro e w5 ⟨rfl, hb5⟩
            have HJ5 := Aside.mk (HJt.out.far hb5)
            have HA5 := Aside.mk (HAP.out.below hb5); have HB5 := Aside.mk (HBP.out.below hb5)
            clear hb5 b0c b0f b1c b1f
            go_wp2_with fail
            refine (sameAll_any l Ap cp Bp dp _ _ _ HA5.out HB5.out).mono ?_
            rintro e w6 ⟨rfl, hb6⟩
            have HJ6 := Aside.mk (HJ5.out.far hb6)
            clear hb6
            go_wp2_with fail
            go_roundw
            case rel => exact ⟨k + 1, t, C1, e1, C2, e2, C3, e3, C4, e4, D1, g1, D2, g2, D3, g3, D4, g4, by omega, by go_num, HIt, HJ6⟩
            case measure => simp [intOf]; omega
        · have h100' : (100 : Int) ≤ (k : Int) := by omega
          go_wp2_with fail
          go_meet
          exact ⟨HJ.out.below⟩
      · have hge : decide (k < xs.length) = false := by simp; omega
        go_wp2_with fail
        go_meet
        exact ⟨HJ.out.below⟩
  case rest =>
    have HB := hcut
    go_wp2_with fail
    refine (awake_any _).mono ?_
    rintro e w9 ⟨rfl, hb9⟩
    have HB9 := Aside.mk (below_all HB.out HB.out.size hb9)
    clear hb9
    go_wp2_with fail
    go_ret
    exact ⟨by simp, HB9.out⟩
end Go.Proofs.Ytmeeldcgmfplnaa
