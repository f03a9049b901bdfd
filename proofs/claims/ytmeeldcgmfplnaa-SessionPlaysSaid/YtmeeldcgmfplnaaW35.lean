/-
  Contract of the reference: refill.
-/
import Derived.Test.YtmeeldcgmfplnaaW15
set_option linter.unusedVariables false
set_option linter.unusedSimpArgs false
namespace Go.Proofs.Ytmeeldcgmfplnaa
open Go.RowKit
attribute [local go_sem] setRow_setCell_same setRow_setCell_other setRow_cell_same setRow_cell_other setRow_frozen setRow_shape
attribute [local go_sem ↓] Go.wp_at_zero Go.wp_at_succ

/-- The session behind the taking of its queue's first. -/
def popS (s : Ses) (q : List Msg) : Ses := { s with queue := q, hd := up s.hd }

/-- In the loop: the session is s now, l has been told. -/
structure JR47 (P : Nat → Prop) (s0 : Ses) (w : World) (s : Ses) (l : List Pkt) (v : Value) (A1 : Option Addr) (c1 : Nat) (A2 : Option Addr) (c2 : Nat) (A3 : Option Addr) (c3 : Nat) (A4 : Option Addr) (c4 : Nat) (wx : World) : Prop where
  b : Blk wx w.heap.size 27 (sesCells s A1 c1 A2 c2 A3 c3 A4 c4)
  b2 : Blk wx (w.heap.size + 1) 27 zeroSes
  rd : RdSes (fun b => P b ∧ some b ≠ v.ownBlock) wx s A1 c1 A2 c2 A3 c3 A4 c4
  out : Own 43 kPkt P (w.heap.size + 2) wx v l
  below : Below w.heap.size w wx
  ln : l.length ≤ 4 ∧ (l.length = 0 ∨ (l.length ≤ s.flight.length ∧ s.flight.length ≤ 4))
  same : refillD s0 = ((refillFrom s.queue s).1, l ++ (refillFrom s.queue s).2)

/-- Behind the taking: the message in its variable. -/
structure JR47b (P : Nat → Prop) (w : World) (s : Ses) (m : Msg) (q : List Msg) (l : List Pkt) (v : Value) (A1 : Option Addr) (c1 : Nat) (A2 : Option Addr) (c2 : Nat) (A3 : Option Addr) (c3 : Nat) (A4 : Option Addr) (c4 : Nat) (g : Nat) (Am : Option Addr) (cm : Nat) (wx : World) : Prop where
  b : Blk wx w.heap.size 27 (sesCells (popS s q) A1 c1 A2 c2 A3 c3 A4 c4)
  b2 : Blk wx (w.heap.size + 1) 27 zeroSes
  bm : Blk wx g 30 (msgCells m Am cm).toArray
  rd : RdSes (fun b => P b ∧ some b ≠ v.ownBlock) wx (popS s q) A1 c1 A2 c2 A3 c3 A4 c4
  mp : Sl 1 kU8 (fun b => P b ∧ some b ≠ v.ownBlock) wx Am cm m.p
  out : Own 43 kPkt P (w.heap.size + 2) wx v l
  below : Below w.heap.size w wx

theorem JR47.done {P : Nat → Prop} {s0 : Ses} {w : World} {s : Ses} {l : List Pkt} {v : Value} {A1 : Option Addr} {c1 : Nat} {A2 : Option Addr} {c2 : Nat} {A3 : Option Addr} {c3 : Nat} {A4 : Option Addr} {c4 : Nat} {wx : World} (h : JR47 P s0 w s l v A1 c1 A2 c2 A3 c3 A4 c4 wx)
    (hd : refillFrom s.queue s = (s, [])) : refillD s0 = (s, l) ∧ ∃ Ap cp, v = .slice Ap l.length cp ∧ Sl 184 kPkt P wx Ap cp l := by
  obtain ⟨Ap, cp, hv, hS⟩ := h.out.reads (bytes := 184) (by have := h.ln.1; omega)
  exact ⟨by rw [h.same, hd, List.append_nil], Ap, cp, hv, hS⟩

theorem JR47.next {P : Nat → Prop} {s0 : Ses} {w : World} {s : Ses} {m : Msg} {q : List Msg} {l : List Pkt} {v v2 : Value} {B1 : Option Addr} {d1 : Nat} {B2 : Option Addr} {d2 : Nat} {B3 : Option Addr} {d3 : Nat} {B4 : Option Addr} {d4 : Nat} {w1 w2 : World} {A1 : Option Addr} {c1 : Nat} {A2 : Option Addr} {c2 : Nat} {A3 : Option Addr} {c3 : Nat} {A4 : Option Addr} {c4 : Nat} {wx : World}
    (h : JR47 P s0 w s l v A1 c1 A2 c2 A3 c3 A4 c4 wx) (hmq : s.queue = m :: q) (hfl : s.flight.length < 4) (hp : ∀ b, P b → b ≠ w.heap.size ∧ b ≠ w.heap.size + 1)
    (hb : Blk w1 w.heap.size 27 (sesCells (sendS (popS s q) m) B1 d1 B2 d2 B3 d3 B4 d4)) (hb2 : Blk w1 (w.heap.size + 1) 27 zeroSes)
    (hrd : RdSes (fun b => P b ∧ some b ≠ v.ownBlock) w1 (sendS (popS s q) m) B1 d1 B2 d2 B3 d3 B4 d4) (hv : ∀ b, v.ownBlock = some b → w.heap.size + 2 ≤ b) (hB : Below w.heap.size w w1)
    (hO : Own 43 kPkt P (w.heap.size + 2) w2 v2 (l ++ [pub m (nxt s.flight s.nid) false])) (hg : w1.grownBy w2 v.ownBlock) (hat : v2.ownBlock = v.ownBlock ∨ v2.ownBlock = some w1.heap.size) :
    JR47 P s0 w (sendS (popS s q) m) (l ++ [pub m (nxt s.flight s.nid) false]) v2 B1 d1 B2 d2 B3 d3 B4 d4 w2 := by
  have hl0 : w.heap.size < w1.heap.size := hb.lt
  refine ⟨hb.grown hg (fun e => by have := hv _ e.symm; omega), hb2.grown hg (fun e => by have := hv _ e.symm; omega), ⟨hrd.subs.after hg hat, hrd.queue.after hg hat, hrd.flight.after hg hat, hrd.ids.after hg hat⟩, hO,
    hB.grown hg hB.size (fun b hb => by have := hv b hb; omega), ?_, ?_⟩
  · have e : (sendS (popS s q) m).flight.length = s.flight.length + 1 := by simp [sendS, popS]
    have h1 := h.ln
    rw [e, List.length_append, List.length_singleton]
    omega
  · rw [h.same, hmq]
    show ((refillFrom (m :: q) s).1, l ++ (refillFrom (m :: q) s).2) = ((refillFrom q (sendS (popS s q) m)).1, (l ++ [pub m (nxt s.flight s.nid) false]) ++ (refillFrom q (sendS (popS s q) m)).2)
    have e2 : sendS (popS s q) m = { sendS s m with queue := q, hd := up s.hd } := rfl
    rw [e2]
    simp only [refillFrom]
    rw [if_pos hfl]
    simp

theorem Kp.mono {ok ok' : Nat → Prop} {w w1 : World} (h : Kp ok w w1) (hm : ∀ b, ok' b → ok b) : Kp ok' w w1 := ⟨h.1, fun b hb hlt => h.2 b (hm b hb) hlt⟩
theorem JR47.pop {P : Nat → Prop} {s0 : Ses} {w : World} {s : Ses} {m : Msg} {q : List Msg} {l : List Pkt} {v : Value} {A1 : Option Addr} {c1 : Nat} {A2 : Option Addr} {c2 : Nat} {A3 : Option Addr} {c3 : Nat} {A4 : Option Addr} {c4 : Nat} {A2n : Option Addr} {c2n : Nat} {wx w1 : World} {Am : Option Addr} {cm : Nat} {cs : Array Value} {hdn : Int}
    (h : JR47 P s0 w s l v A1 c1 A2 c2 A3 c3 A4 c4 wx) (hP : Sl 1 kU8 (fun b => P b ∧ some b ≠ v.ownBlock) wx Am cm m.p) (hp : ∀ b, P b → b ≠ w.heap.size) (k0 : Blk w1 w.heap.size 27 cs) (k2 : Blk w1 (w.heap.size + 1) 27 zeroSes) (km : Blk w1 wx.heap.size 30 (msgCells m Am cm).toArray)
    (hS : Sl 64 kMsg (fun b => P b ∧ some b ≠ v.ownBlock) w1 A2n c2n q) (hB : Below wx.heap.size wx w1) (hu : up s.hd = hdn) :
    JR47b P w s m q l v A1 c1 A2n c2n A3 c3 A4 c4 wx.heap.size Am cm (w1.setRow w.heap.size #[.string s.cl, .slice A1 s.subs.length c1, .slice A2n q.length c2n, .slice A3 s.flight.length c3, .slice A4 s.ids.length c4, .int .i64 s.nid, .int .i64 hdn, .int .i64 s.snt]) := by
  subst hu
  have hl : w.heap.size < wx.heap.size := h.b.lt
  have kp : Kp (fun b => P b ∧ some b ≠ v.ownBlock) w1 (w1.setRow w.heap.size #[.string s.cl, .slice A1 s.subs.length c1, .slice A2n q.length c2n, .slice A3 s.flight.length c3, .slice A4 s.ids.length c4, .int .i64 s.nid, .int .i64 (up s.hd), .int .i64 s.snt]) := (Kp.refl _ _).put (fun b hb => hp b hb.1) _
  have hr := h.rd.below hB
  exact ⟨k0.put _, k2.other (by omega) _, km.other (by omega) _, ⟨hr.subs.kp kp, hS.kp kp, hr.flight.kp kp, hr.ids.kp kp⟩, (hP.below hB).kp kp, (h.out.below hB).kp ((Kp.refl _ _).put (fun b hb => hp b hb) _), below_put (below_all h.below h.below.size hB) (Nat.le_refl _) _⟩

theorem JR47.post {ok : Nat → Prop} {s0 : Ses} {w : World} {s : Ses} {l : List Pkt} {v : Value} {A1 : Option Addr} {c1 : Nat} {A2 : Option Addr} {c2 : Nat} {A3 : Option Addr} {c3 : Nat} {A4 : Option Addr} {c4 : Nat} {wx : World} (h : JR47 (fun b => (ok b ∧ b < w.heap.size) ∨ w.heap.size + 2 ≤ b) s0 w s l v A1 c1 A2 c2 A3 c3 A4 c4 wx)
    (hd : refillFrom s.queue s = (s, [])) (a : Array Value) : Post30 (refillD s0) ok w (.returned (.tuple #[.agg (sesCells s A1 c1 A2 c2 A3 c3 A4 c4), v])) (wx.setRow (w.heap.size + 1) a) := by
  obtain ⟨e, Ap, cp, hv, hS⟩ := h.done hd
  rw [e]
  have hk : Kp (fun b => (ok b ∧ b < w.heap.size) ∨ w.heap.size + 2 ≤ b) wx (wx.setRow (w.heap.size + 1) a) := (Kp.refl _ _).put (fun b hb => by omega) _
  exact ⟨_, _, rfl, ⟨A1, c1, A2, c2, A3, c3, A4, c4, rfl, ((h.rd.mono (fun b hb _ => hb.1)).move hk.2).mono (fun b hb _ => hb.imp (fun h => h) (fun h => by omega))⟩, ⟨Ap, cp, hv, (hS.kp hk).mono (fun b hb _ => hb.imp (fun h => h) (fun h => by omega))⟩, below_put h.below (by omega) _⟩

set_option maxRecDepth 100000 in
set_option maxHeartbeats 8000000 in
theorem refRefill_any (s : Ses) (A1 : Option Addr) (c1 : Nat) (A2 : Option Addr) (c2 : Nat) (A3 : Option Addr) (c3 : Nat) (A4 : Option Addr) (c4 : Nat) (ok : Nat → Prop) (w : World)
    (h : RdSes ok w s A1 c1 A2 c2 A3 c3 A4 c4) :
    Calls Try.prog 47 #[.agg (sesCells s A1 c1 A2 c2 A3 c3 A4 c4)] w (Post30 (refillD s) ok w) := by
  have HJ0 := Aside.mk (show JR47 (fun b => (ok b ∧ b < w.heap.size) ∨ w.heap.size + 2 ≤ b) s w s [] (.slice none 0 0) A1 c1 A2 c2 A3 c3 A4 c4 ((w.alloc (.cells (sesCells s A1 c1 A2 c2 A3 c3 A4 c4) 27)).alloc (.cells zeroSes 27)) from
    ⟨(Blk.new w 27 _).alloc _, Blk.newAt _ _ (by simp) _ _, (h.mono (ok' := fun b => (ok b ∧ b < w.heap.size) ∨ w.heap.size + 2 ≤ b) (fun b hb hlt => .inl ⟨hb, hlt⟩)).mono (fun b hb _ => ⟨hb, by simp [Value.ownBlock]⟩) |>.below ((Below.refl _ _).alloc (Nat.le_refl _) _) |>.below ((Below.refl _ _).alloc (Nat.le_refl _) _), Own.nil _ _ _ _ _, ((Below.refl w.heap.size w).alloc (Nat.le_refl _) _).alloc (by simp) _, ⟨by simp, .inl rfl⟩, by simp [refillD]⟩)
  clear h
  simp only [sesCells]
  go_enter Try.func47, Try.ntmps47
  go_wp2_with fail
  go_loopw [4] (fun v wr => ∃ s1 l A1 c1 A2 c2 A3 c3 A4 c4, Aside (JR47 (fun b => (ok b ∧ b < w.heap.size) ∨ w.heap.size + 2 ≤ b) s w s1 l v A1 c1 A2 c2 A3 c3 A4 c4 wr)) (fun _ wr => waitOf (wr.cell? ⟨w.heap.size, 2, none⟩))
  case atStart => exact ⟨s, [], A1, c1, A2, c2, A3, c3, A4, c4, HJ0⟩
  case round =>
    clear HJ0
    obtain ⟨s1, l, B1, d1, B2, d2, B3, d3, B4, d4, HJ⟩ := hrel
    obtain ⟨b0c, b0f, b0s, b0h⟩ := HJ.out.b.all
    by_cases hfl : (s1.flight.length : Int) < 4
    · have HFL := Aside.mk (show s1.flight.length < 4 by omega)
      by_cases hqe : s1.queue = []
      · have hd := Aside.mk (refill_none s1 hqe)
        obtain ⟨b2c, b2f, b2s, b2h⟩ := HJ.out.b2.all
        have hq0 : ¬ (0 : Int) < (s1.queue.length : Int) := by simp [hqe]
        have hdd : decide ((0 : Int) < (s1.queue.length : Int)) = false := decide_eq_false hq0
        clear hqe
        go_wp2_with fail
        refine bodyPost_ret (res_ct rfl _ _ (w.heap.size + 1) 27 _ _ rfl (HJ.out.b2.put _) Try.underlying27 rfl (by kernel_rfl)) rfl ?_
        exact HJ.out.post hd.out _
      · obtain ⟨m, q, hmq⟩ := List.exists_cons_of_ne_nil hqe
        have hq0 : (0 : Int) < (s1.queue.length : Int) := by rw [hmq, List.length_cons]; omega
        have hx : s1.queue[0]? = some m := by rw [hmq]; rfl
        have hlv : w.heap.size + 1 < wr.heap.size := HJ.out.b2.lt
        have hlt0 : w.heap.size < wr.heap.size := by omega
        have hne0 : ¬ w.heap.size = wr.heap.size := by omega
        obtain ⟨ad, Am, cm, rfl, hP, e0, e1, e2, e3, e4⟩ := msg_at HJ.out.rd.queue.2.2.2 (i := 0) (by omega) hx
        have HMQ := Aside.mk hmq; have HP := Aside.mk hP
        have f0 : wr.cell? ad = some (.string m.t) := by simpa [Addr.add] using e0
        have f1 : wr.cell? ⟨ad.block, ad.off + 1, none⟩ = some (.slice Am m.p.length cm) := by simpa [Addr.add] using e1
        have f2 : wr.cell? ⟨ad.block, ad.off + 2, none⟩ = some (.int .i64 m.q) := by simpa [Addr.add] using e2
        have f3 : wr.cell? ⟨ad.block, ad.off + 3, none⟩ = some (.bool m.r) := by simpa [Addr.add] using e3
        have f4 : wr.cell? ⟨ad.block, ad.off + 4, none⟩ = some (.int .i64 m.u) := by simpa [Addr.add] using e4
        clear hqe hmq hx hP e0 e1 e2 e3 e4
        by_cases hc2 : d2 = 1
        · skip
          have HT := Aside.mk (tail_one HJ.out.rd.queue HMQ.out hc2)
          go_upto_if 28 with (at_builtin; go_must (refine wpList_append_Own (P := Try.prog) _ rfl kMsg (.const (.slice none 0 0)) (.tmp 23) 23 30 rfl (.agg #[.string ⟨#[]⟩, .slice none 0 0, .int .i64 0, .bool false, .int .i64 0]) 64 Try.underlying23 info30 rfl (by decide) (ok := (fun b => ((ok b ∧ b < w.heap.size) ∨ w.heap.size + 2 ≤ b) ∧ some b ≠ u4.ownBlock)) (okp := (fun b => ((ok b ∧ b < w.heap.size) ∨ w.heap.size + 2 ≤ b) ∧ some b ≠ u4.ownBlock)) (lo := w.heap.size + 2) (v := .slice none 0 0) (xs := []) (ys := q) rfl (Own.nil _ _ _ _ _) (A := some ad) (m := s1.queue.length - 1) (c := 0) rfl ?c1 ?c2 ?c3 ?c4 ?c5 ?_))
          case c1 => rw [HT.out.2]; exact Kn.C_free (HT.out.1.below ((Below.refl _ _).alloc (Nat.le_refl _) _)).2.2.2
          case c2 => exact fun b hb _ => ⟨hb, by simp [Value.ownBlock]⟩
          case c3 => exact fun b hb => ⟨.inr (by simp at hb; omega), fun e => by have := (HJ.out.out.ge b e.symm).2; simp at hb; omega⟩
          case c4 => simp; omega
          case c5 => have := HT.out.1.2.2.1; simp; omega
          intro v1 w1 hO hg hat
          obtain ⟨A2n, c2n, hv1, hSl⟩ := hO.reads (bytes := 64) (by have := HT.out.1.2.2.1; simp; omega)
          subst hv1
          have hb1 := below_of_grown_none hg
          have HB := Aside.mk (Below.trans ((Below.refl wr.heap.size wr).alloc (Nat.le_refl _) _) (hb1.mono (by simp)))
          have k0 := (HJ.out.b.alloc (.cells (msgCells m Am cm).toArray 30)).belowAll hb1
          have K2 := Aside.mk ((HJ.out.b2.alloc (.cells (msgCells m Am cm).toArray 30)).belowAll hb1)
          have KM := Aside.mk ((Blk.new wr 30 (msgCells m Am cm).toArray).belowAll hb1)
          have HSL := Aside.mk hSl
          obtain ⟨k0c, k0f, k0s, k0h⟩ := k0.all
          have K0 := Aside.mk k0
          have HN := Aside.mk (JR47.pop (q := q) (hdn := up s1.hd) HJ.out HP.out (fun b hb => by omega) k0 K2.out KM.out HSL.out HB.out rfl)
          clear hO hg hat hSl hb1 k0 b0c b0f b0s b0h f0 f1 f2 f3 f4
          go_upto_if 28 with fail
          go_cut [] (fun wx => Aside (JR47b (fun b => ((ok b ∧ b < w.heap.size) ∨ w.heap.size + 2 ≤ b)) w s1 m q l u4 B1 d1 A2n c2n B3 d3 B4 d4 wr.heap.size Am cm wx))
          case first =>
            by_cases hup : s1.hd < 1152921504606846976
            · have hu := Aside.mk (show up s1.hd = wrap64 (s1.hd + 1) by unfold up; rw [if_neg (by omega)])
              go_wp2_with fail
              go_meet
              rw [hu.out] at HN
              exact HN
            · have hu := Aside.mk (show up s1.hd = s1.hd by unfold up; rw [if_pos (by omega)])
              go_wp2_with fail
              go_meet
              rw [hu.out] at HN
              exact HN
          case rest =>
            clear k0c k0f k0s k0h HN K0 K2 KM HSL HB HT
            obtain ⟨b0c, b0f, b0s, b0h⟩ := hcut.out.b.all
            obtain ⟨bmc, bmf, _, _⟩ := hcut.out.bm.all
            go_wp2_with fail
            refine (refSend_any (popS s1 q) B1 d1 A2n c2n B3 d3 B4 d4 m Am cm (fun b => ((ok b ∧ b < w.heap.size) ∨ w.heap.size + 2 ≤ b) ∧ some b ≠ u4.ownBlock) wc hcut.out.rd hcut.out.mp HFL.out).mono ?_
            rintro e w3 ⟨vs, vp, rfl, ⟨C1, e1, C2, e2, C3, e3, C4, e4, rfl, hrd⟩, ⟨Bp, dp, rfl, hpk⟩, hb3⟩
            dsimp only at hrd hpk
            have hpb : ∀ b, u4.ownBlock = some b → w.heap.size + 2 ≤ b ∧ b < wc.heap.size := fun b hb => hcut.out.out.ge b hb
            have hs2 : w.heap.size + 1 < wc.heap.size := hcut.out.b2.lt
            have hkp : ∀ a, Kp (fun b => ((ok b ∧ b < w.heap.size) ∨ w.heap.size + 2 ≤ b)) w3 (w3.setRow w.heap.size a) := fun a => (Kp.refl _ _).put (fun b hb => by omega) _
            have hmn : ∀ b, ((fun b => ((fun b => ((ok b ∧ b < w.heap.size) ∨ w.heap.size + 2 ≤ b) ∧ some b ≠ u4.ownBlock) b ∧ b < wc.heap.size) ∨ wc.heap.size ≤ b) b) → (fun b => ((ok b ∧ b < w.heap.size) ∨ w.heap.size + 2 ≤ b) ∧ some b ≠ u4.ownBlock) b := fun b hb => hb.elim (fun h => h.1) (fun h => ⟨.inr (by omega), fun e => by have := (hpb b e.symm).2; omega⟩)
            have HRD := Aside.mk (fun a => (hrd.mono (ok' := (fun b => ((ok b ∧ b < w.heap.size) ∨ w.heap.size + 2 ≤ b) ∧ some b ≠ u4.ownBlock)) (fun b hb _ => hmn b hb)).move (((hkp a).mono (fun b hb => hb.1)).2))
            have HPK := Aside.mk (fun a => (hpk.mono (ok' := (fun b => ((ok b ∧ b < w.heap.size) ∨ w.heap.size + 2 ≤ b) ∧ some b ≠ u4.ownBlock)) (fun b hb _ => hmn b hb)).kp ((hkp a).mono (fun b hb => hb.1)))
            have HOW := Aside.mk (fun a => (hcut.out.out.below hb3).kp (hkp a))
            have k0 := hcut.out.b.belowAll hb3
            have K0 := Aside.mk k0; have K2 := Aside.mk (hcut.out.b2.belowAll hb3)
            have HBW := Aside.mk (below_all hcut.out.below hcut.out.below.size hb3)
            have HPB := Aside.mk hpb
            have hs3 := hb3.size
            clear b0c b0f b0s b0h bmc bmf
            obtain ⟨k0c, k0f, k0s, k0h⟩ := k0.all
            clear hrd hpk hpb hkp hmn hb3 k0
            simp only [sesCells, List.length_singleton]
            go_wp2_with (at_builtin; go_must (refine wpList_append_Own (P := Try.prog) _ rfl kPkt (.tmp 39) (.tmp 40) 33 43 rfl (.agg zeroPkt) 184 Try.underlying33 info43 rfl (by decide) (ok := fun b => ((ok b ∧ b < w.heap.size) ∨ w.heap.size + 2 ≤ b)) (okp := (fun b => ((ok b ∧ b < w.heap.size) ∨ w.heap.size + 2 ≤ b) ∧ some b ≠ u4.ownBlock)) (lo := w.heap.size + 2) (v := u4) (xs := l) (ys := [pub m (nxt s1.flight s1.nid) false]) rfl ?c1 (A := Bp) (m := 1) (c := dp) rfl ?c2 ?c3 ?c4 ?c5 ?c6 ?_))
            case c1 => exact HOW.out _
            case c2 => exact Kn.C_free (HPK.out _).2.2.2
            case c3 => exact fun b hb _ => hb
            case c4 => exact fun b hb => .inr (by simp at hb; omega)
            case c5 => simp; omega
            case c6 => have := HJ.out.ln.1; simp; omega
            intro v2 w4 hO hg hat
            have HN := Aside.mk (JR47.next HJ.out HMQ.out HFL.out (fun b hb => by omega) (K0.out.put (sesCells (sendS (popS s1 q) m) C1 e1 C2 e2 C3 e3 C4 e4)) (K2.out.other (by omega) _) (HRD.out _) (fun b hb => (HPB.out b hb).1) (below_put HBW.out (Nat.le_refl _) _) hO hg (by simpa using hat))
            clear hO hg hat k0c k0f k0s k0h
            go_wp2_with fail
            go_roundw
            case rel => exact ⟨_, _, C1, e1, C2, e2, C3, e3, C4, e4, HN⟩
            case measure =>
              rw [HN.out.b.cells 2, HJ.out.b.cells 2]
              show q.length < s1.queue.length
              rw [HMQ.out, List.length_cons]
              omega
        · skip
          have HT := Aside.mk (tail_more HJ.out.rd.queue HMQ.out hc2)
          go_upto_if 28 with (at_builtin; go_must (refine wpList_append_Own (P := Try.prog) _ rfl kMsg (.const (.slice none 0 0)) (.tmp 23) 23 30 rfl (.agg #[.string ⟨#[]⟩, .slice none 0 0, .int .i64 0, .bool false, .int .i64 0]) 64 Try.underlying23 info30 rfl (by decide) (ok := (fun b => ((ok b ∧ b < w.heap.size) ∨ w.heap.size + 2 ≤ b) ∧ some b ≠ u4.ownBlock)) (okp := (fun b => ((ok b ∧ b < w.heap.size) ∨ w.heap.size + 2 ≤ b) ∧ some b ≠ u4.ownBlock)) (lo := w.heap.size + 2) (v := .slice none 0 0) (xs := []) (ys := q) rfl (Own.nil _ _ _ _ _) (A := some ⟨ad.block, ad.off + 5, none⟩) (m := s1.queue.length - 1) (c := d2 - 1) rfl ?c1 ?c2 ?c3 ?c4 ?c5 ?_))
          case c1 => rw [HT.out.2]; exact Kn.C_free (HT.out.1.below ((Below.refl _ _).alloc (Nat.le_refl _) _)).2.2.2
          case c2 => exact fun b hb _ => ⟨hb, by simp [Value.ownBlock]⟩
          case c3 => exact fun b hb => ⟨.inr (by simp at hb; omega), fun e => by have := (HJ.out.out.ge b e.symm).2; simp at hb; omega⟩
          case c4 => simp; omega
          case c5 => have := HT.out.1.2.2.1; simp; omega
          intro v1 w1 hO hg hat
          obtain ⟨A2n, c2n, hv1, hSl⟩ := hO.reads (bytes := 64) (by have := HT.out.1.2.2.1; simp; omega)
          subst hv1
          have hb1 := below_of_grown_none hg
          have HB := Aside.mk (Below.trans ((Below.refl wr.heap.size wr).alloc (Nat.le_refl _) _) (hb1.mono (by simp)))
          have k0 := (HJ.out.b.alloc (.cells (msgCells m Am cm).toArray 30)).belowAll hb1
          have K2 := Aside.mk ((HJ.out.b2.alloc (.cells (msgCells m Am cm).toArray 30)).belowAll hb1)
          have KM := Aside.mk ((Blk.new wr 30 (msgCells m Am cm).toArray).belowAll hb1)
          have HSL := Aside.mk hSl
          obtain ⟨k0c, k0f, k0s, k0h⟩ := k0.all
          have K0 := Aside.mk k0
          have HN := Aside.mk (JR47.pop (q := q) (hdn := up s1.hd) HJ.out HP.out (fun b hb => by omega) k0 K2.out KM.out HSL.out HB.out rfl)
          clear hO hg hat hSl hb1 k0 b0c b0f b0s b0h f0 f1 f2 f3 f4
          go_upto_if 28 with fail
          go_cut [] (fun wx => Aside (JR47b (fun b => ((ok b ∧ b < w.heap.size) ∨ w.heap.size + 2 ≤ b)) w s1 m q l u4 B1 d1 A2n c2n B3 d3 B4 d4 wr.heap.size Am cm wx))
          case first =>
            by_cases hup : s1.hd < 1152921504606846976
            · have hu := Aside.mk (show up s1.hd = wrap64 (s1.hd + 1) by unfold up; rw [if_neg (by omega)])
              go_wp2_with fail
              go_meet
              rw [hu.out] at HN
              exact HN
            · have hu := Aside.mk (show up s1.hd = s1.hd by unfold up; rw [if_pos (by omega)])
              go_wp2_with fail
              go_meet
              rw [hu.out] at HN
              exact HN
          case rest =>
            clear k0c k0f k0s k0h HN K0 K2 KM HSL HB HT
            obtain ⟨b0c, b0f, b0s, b0h⟩ := hcut.out.b.all
            obtain ⟨bmc, bmf, _, _⟩ := hcut.out.bm.all
            go_wp2_with fail
            refine (refSend_any (popS s1 q) B1 d1 A2n c2n B3 d3 B4 d4 m Am cm (fun b => ((ok b ∧ b < w.heap.size) ∨ w.heap.size + 2 ≤ b) ∧ some b ≠ u4.ownBlock) wc hcut.out.rd hcut.out.mp HFL.out).mono ?_
            rintro e w3 ⟨vs, vp, rfl, ⟨C1, e1, C2, e2, C3, e3, C4, e4, rfl, hrd⟩, ⟨Bp, dp, rfl, hpk⟩, hb3⟩
            dsimp only at hrd hpk
            have hpb : ∀ b, u4.ownBlock = some b → w.heap.size + 2 ≤ b ∧ b < wc.heap.size := fun b hb => hcut.out.out.ge b hb
            have hs2 : w.heap.size + 1 < wc.heap.size := hcut.out.b2.lt
            have hkp : ∀ a, Kp (fun b => ((ok b ∧ b < w.heap.size) ∨ w.heap.size + 2 ≤ b)) w3 (w3.setRow w.heap.size a) := fun a => (Kp.refl _ _).put (fun b hb => by omega) _
            have hmn : ∀ b, ((fun b => ((fun b => ((ok b ∧ b < w.heap.size) ∨ w.heap.size + 2 ≤ b) ∧ some b ≠ u4.ownBlock) b ∧ b < wc.heap.size) ∨ wc.heap.size ≤ b) b) → (fun b => ((ok b ∧ b < w.heap.size) ∨ w.heap.size + 2 ≤ b) ∧ some b ≠ u4.ownBlock) b := fun b hb => hb.elim (fun h => h.1) (fun h => ⟨.inr (by omega), fun e => by have := (hpb b e.symm).2; omega⟩)
            have HRD := Aside.mk (fun a => (hrd.mono (ok' := (fun b => ((ok b ∧ b < w.heap.size) ∨ w.heap.size + 2 ≤ b) ∧ some b ≠ u4.ownBlock)) (fun b hb _ => hmn b hb)).move (((hkp a).mono (fun b hb => hb.1)).2))
            have HPK := Aside.mk (fun a => (hpk.mono (ok' := (fun b => ((ok b ∧ b < w.heap.size) ∨ w.heap.size + 2 ≤ b) ∧ some b ≠ u4.ownBlock)) (fun b hb _ => hmn b hb)).kp ((hkp a).mono (fun b hb => hb.1)))
            have HOW := Aside.mk (fun a => (hcut.out.out.below hb3).kp (hkp a))
            have k0 := hcut.out.b.belowAll hb3
            have K0 := Aside.mk k0; have K2 := Aside.mk (hcut.out.b2.belowAll hb3)
            have HBW := Aside.mk (below_all hcut.out.below hcut.out.below.size hb3)
            have HPB := Aside.mk hpb
            have hs3 := hb3.size
            clear b0c b0f b0s b0h bmc bmf
            obtain ⟨k0c, k0f, k0s, k0h⟩ := k0.all
            clear hrd hpk hpb hkp hmn hb3 k0
            simp only [sesCells, List.length_singleton]
            go_wp2_with (at_builtin; go_must (refine wpList_append_Own (P := Try.prog) _ rfl kPkt (.tmp 39) (.tmp 40) 33 43 rfl (.agg zeroPkt) 184 Try.underlying33 info43 rfl (by decide) (ok := fun b => ((ok b ∧ b < w.heap.size) ∨ w.heap.size + 2 ≤ b)) (okp := (fun b => ((ok b ∧ b < w.heap.size) ∨ w.heap.size + 2 ≤ b) ∧ some b ≠ u4.ownBlock)) (lo := w.heap.size + 2) (v := u4) (xs := l) (ys := [pub m (nxt s1.flight s1.nid) false]) rfl ?c1 (A := Bp) (m := 1) (c := dp) rfl ?c2 ?c3 ?c4 ?c5 ?c6 ?_))
            case c1 => exact HOW.out _
            case c2 => exact Kn.C_free (HPK.out _).2.2.2
            case c3 => exact fun b hb _ => hb
            case c4 => exact fun b hb => .inr (by simp at hb; omega)
            case c5 => simp; omega
            case c6 => have := HJ.out.ln.1; simp; omega
            intro v2 w4 hO hg hat
            have HN := Aside.mk (JR47.next HJ.out HMQ.out HFL.out (fun b hb => by omega) (K0.out.put (sesCells (sendS (popS s1 q) m) C1 e1 C2 e2 C3 e3 C4 e4)) (K2.out.other (by omega) _) (HRD.out _) (fun b hb => (HPB.out b hb).1) (below_put HBW.out (Nat.le_refl _) _) hO hg (by simpa using hat))
            clear hO hg hat k0c k0f k0s k0h
            go_wp2_with fail
            go_roundw
            case rel => exact ⟨_, _, C1, e1, C2, e2, C3, e3, C4, e4, HN⟩
            case measure =>
              rw [HN.out.b.cells 2, HJ.out.b.cells 2]
              show q.length < s1.queue.length
              rw [HMQ.out, List.length_cons]
              omega
    · have hd := Aside.mk (refill_full s1 (by omega))
      obtain ⟨b2c, b2f, b2s, b2h⟩ := HJ.out.b2.all
      have hdd : decide ((s1.flight.length : Int) < 4) = false := decide_eq_false hfl
      go_wp2_with fail
      refine bodyPost_ret (res_ct rfl _ _ (w.heap.size + 1) 27 _ _ rfl (HJ.out.b2.put _) Try.underlying27 rfl (by kernel_rfl)) rfl ?_
      exact HJ.out.post hd.out _
end Go.Proofs.Ytmeeldcgmfplnaa
