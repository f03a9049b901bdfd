/-
  Contract: session.refill.
-/
import Derived.Test.YtmeeldcgmfplnaaW9
import Derived.ScopeJumps
set_option linter.unusedVariables false
set_option linter.unusedSimpArgs false
namespace Go.Proofs.Ytmeeldcgmfplnaa
open Go.RowKit
attribute [local go_sem] setRow_setCell_same setRow_setCell_other setRow_cell_same setRow_cell_other setRow_frozen setRow_shape
attribute [local go_sem ↓] Go.wp_at_zero Go.wp_at_succ

theorem info43 : (Try.prog.info? 43).map (fun i => (i.zero, i.size, i.bytes)) = some (some (.agg zeroPkt), 16, 184) := by kernel_rfl

/-- What refill makes of a session, message by message of its queue. -/
def refillFrom : List Msg → Ses → Ses × List Pkt
  | [], s => ({ s with queue := [] }, [])
  | m :: q, s =>
    if s.flight.length < 4 then
      let r := refillFrom q { sendS s m with queue := q, hd := up s.hd }
      (r.1, pub m (nxt s.flight s.nid) false :: r.2)
    else ({ s with queue := m :: q }, [])
def refillD (s : Ses) : Ses × List Pkt := refillFrom s.queue s

/-- What refill leaves: the session's block, its flights, what is left of the queue, the packets. -/
def Post34 (v1 v4 v3 : Value) (s : Ses) (r : Ses × List Pkt) (ok okq : Nat → Prop) (lo g : Nat) (w : World) (e : Ending) (w' : World) : Prop :=
  ∃ Ap cp A2 c2 A3 c3, e = .returned (.slice Ap r.2.length cp) ∧
    Blk w' g 27 #[.string s.cl, v1, .slice A2 r.1.queue.length c2, .slice A3 r.1.flight.length c3, v4, .int .i64 r.1.nid, .int .i64 r.1.hd, .int .i64 r.1.snt] ∧
    Own 50 kFlt ok lo w' (.slice A3 r.1.flight.length c3) r.1.flight ∧ Sl 64 kMsg okq w' A2 c2 r.1.queue ∧
    Sl 184 kPkt (fun b => w.heap.size ≤ b ∧ some b ≠ (Value.slice A3 r.1.flight.length c3).ownBlock) w' Ap cp r.2 ∧
    Turn g v3.ownBlock w w' ∧ AtOrNew v3 (.slice A3 r.1.flight.length c3) w.heap.size

/-- At the label: the session is s now, l has been told. -/
structure J34 (v1 v4 v3 : Value) (s0 : Ses) (ok okq : Nat → Prop) (lo g : Nat) (w : World) (s : Ses) (l : List Pkt) (vo : Value) (A2 : Option Addr) (c2 : Nat) (A3 : Option Addr) (c3 : Nat) (wx : World) : Prop where
  cl : s.cl = s0.cl
  b : Blk wx g 27 #[.string s.cl, v1, .slice A2 s.queue.length c2, .slice A3 s.flight.length c3, v4, .int .i64 s.nid, .int .i64 s.hd, .int .i64 s.snt]
  fl : Own 50 kFlt (fun b => ok b ∧ some b ≠ vo.ownBlock) lo wx (.slice A3 s.flight.length c3) s.flight
  qu : Sl 64 kMsg (fun b => okq b ∧ b < w.heap.size) wx A2 c2 s.queue
  out : Own 43 kPkt (fun b => w.heap.size ≤ b ∧ some b ≠ (Value.slice A3 s.flight.length c3).ownBlock) w.heap.size wx vo l
  turn : Turn g v3.ownBlock w wx
  atn : AtOrNew v3 (.slice A3 s.flight.length c3) w.heap.size
  ln : l.length ≤ 4 ∧ (l.length = 0 ∨ (l.length ≤ s.flight.length ∧ s.flight.length ≤ 4))
  same : refillD s0 = ((refillFrom s.queue s).1, l ++ (refillFrom s.queue s).2)

/-- How many wait, off the session's block. -/
def waitOf : Option Value → Nat
  | some (.slice _ n _) => n
  | _ => 0
theorem refill_none (s : Ses) (h : s.queue = []) : refillFrom s.queue s = (s, []) := by
  obtain ⟨cl, subs, queue, flight, ids, nid, hd, snt⟩ := s
  simp only at h
  subst h
  rfl
theorem refill_full (s : Ses) (h : ¬ s.flight.length < 4) : refillFrom s.queue s = (s, []) := by
  obtain ⟨cl, subs, queue, flight, ids, nid, hd, snt⟩ := s
  cases queue with
  | nil => rfl
  | cons m q => simp only [refillFrom]; rw [if_neg h]

/-- queue[1:]. -/
theorem tail_one {ok : Nat → Prop} {w : World} {ad : Addr} {c : Nat} {m : Msg} {q queue : List Msg} (h : Sl 64 kMsg ok w (some ad) c queue) (hmq : queue = m :: q) (hc : c = 1) :
    Sl 64 kMsg ok w (some ad) 0 q ∧ queue.length - 1 = q.length := by
  subst hmq
  have h1 := h.1
  rw [List.length_cons] at h1
  have hq : q = [] := List.eq_nil_of_length_eq_zero (by omega)
  subst hq
  exact ⟨⟨by simp, by decide, by simp, Kn.C_nil _ _ _ _⟩, rfl⟩
theorem tail_more {ok : Nat → Prop} {w : World} {ad : Addr} {c : Nat} {m : Msg} {q queue : List Msg} (h : Sl 64 kMsg ok w (some ad) c queue) (hmq : queue = m :: q) (hc : c ≠ 1) :
    Sl 64 kMsg ok w (some ⟨ad.block, ad.off + 5, none⟩) (c - 1) q ∧ queue.length - 1 = q.length := by
  subst hmq
  have h1 := h.1; have h3 := h.2.2.1
  rw [List.length_cons] at h1 h3
  have h4 := Kn.C_drop h.2.2.2 1 (by simp) h.1
  rw [if_neg hc] at h4
  refine ⟨⟨by omega, by have := h.2.1; omega, by omega, ?_⟩, by simp⟩
  simpa [Addr.add, kMsg] using h4

theorem J34.done {v1 v4 v3 : Value} {s0 : Ses} {ok okq : Nat → Prop} {lo g : Nat} {w : World} {s : Ses} {l : List Pkt} {vo : Value} {A2 : Option Addr} {c2 : Nat} {A3 : Option Addr} {c3 : Nat} {wx : World} (h : J34 v1 v4 v3 s0 ok okq lo g w s l vo A2 c2 A3 c3 wx)
    (hd : refillFrom s.queue s = (s, [])) : Post34 v1 v4 v3 s0 (refillD s0) ok okq lo g w (.returned vo) wx := by
  obtain ⟨Ap, cp, hv, hS⟩ := h.out.reads (bytes := 184) (by have := h.ln.1; omega)
  have e : refillD s0 = (s, l) := by rw [h.same, hd, List.append_nil]
  rw [e]
  exact ⟨Ap, cp, A2, c2, A3, c3, by rw [hv], by have := h.b; rwa [h.cl] at this, h.fl.mono (fun b hb _ => hb.1), h.qu.mono (fun b hb _ => hb.1), hS, h.turn, h.atn⟩

theorem J34.next {v1 v4 v3 : Value} {s0 : Ses} {ok okq : Nat → Prop} {lo g : Nat} {w : World} {s : Ses} {l : List Pkt} {vo : Value} {A2 : Option Addr} {c2 : Nat} {A3 : Option Addr} {c3 : Nat} {wx w1 w2 : World} {m : Msg} {q : List Msg} {A2n : Option Addr} {c2n : Nat} {A3s : Option Addr} {c3s nq : Nat} {v2 : Value} {o1 o2 : Obj} {cs : Array Value}
    (h : J34 v1 v4 v3 s0 ok okq lo g w s l vo A2 c2 A3 c3 wx) (hmq : s.queue = m :: q) (hfl : s.flight.length < 4) (hnq : nq = q.length) (hg : ∀ b, ok b → b ≠ g) (hgl : g < w.heap.size)
    (hqs : ∀ b, okq b → b < w.heap.size → b ≠ g ∧ some b ≠ v3.ownBlock)
    (k0 : Blk w1 g 27 cs) (kF : Own 50 kFlt (fun b => ok b ∧ some b ≠ vo.ownBlock) lo w1 (.slice A3s (s.flight.length + 1) c3s) (s.flight ++ [fly m (nxt s.flight s.nid) s.snt]))
    (kT : Turn g (Value.slice A3 s.flight.length c3).ownBlock wx w1) (kA : AtOrNew (.slice A3 s.flight.length c3) (.slice A3s (s.flight.length + 1) c3s) wx.heap.size)
    (hO : Own 43 kPkt (fun b => w.heap.size ≤ b ∧ some b ≠ (Value.slice A3s (s.flight.length + 1) c3s).ownBlock) w.heap.size w2 v2 (l ++ [pub m (nxt s.flight s.nid) false]))
    (hgr : ((w1.alloc o1).alloc o2).grownBy w2 vo.ownBlock) (hat : v2.ownBlock = vo.ownBlock ∨ v2.ownBlock = some ((w1.alloc o1).alloc o2).heap.size)
    (hq' : Sl 64 kMsg (fun b => okq b ∧ b < w.heap.size) wx A2n c2n q) :
    J34 v1 v4 v3 s0 ok okq lo g w { sendS s m with queue := q, hd := up s.hd } (l ++ [pub m (nxt s.flight s.nid) false]) v2 A2n c2n A3s c3s
      (w2.setRow g #[.string s.cl, v1, .slice A2n nq c2n, .slice A3s (s.flight.length + 1) c3s, v4, .int .i64 (nxt s.flight s.nid), .int .i64 (up s.hd), .int .i64 (up s.snt)]) := by
  subst hnq
  have e : ({ sendS s m with queue := q, hd := up s.hd } : Ses).flight.length = s.flight.length + 1 := by simp [sendS]
  have hvo : ∀ b, vo.ownBlock = some b → w.heap.size ≤ b := fun b hb => (h.out.ge b hb).1
  have hgv : some g ≠ vo.ownBlock := fun e => by have := hvo g e.symm; omega
  have kp2 : ∀ {P : Nat → Prop}, (∀ b, P b → some b ≠ vo.ownBlock ∧ b ≠ g) → Kp P w1 (w2.setRow g #[.string s.cl, v1, .slice A2n q.length c2n, .slice A3s (s.flight.length + 1) c3s, v4, .int .i64 (nxt s.flight s.nid), .int .i64 (up s.hd), .int .i64 (up s.snt)]) :=
    fun hP => ((((Kp.refl _ _).alloc o1).alloc o2).grown hgr (fun b hb => (hP b hb).1)).put (fun b hb => (hP b hb).2) _
  refine ⟨h.cl, ?_, ?_, ?_, ?_, ?_, ?_, ?_, ?_⟩
  · rw [e]
    exact (((k0.alloc o1).alloc o2).grown hgr hgv).put _
  · rw [e]
    exact ((((kF.kp (((Kp.refl _ _).alloc o1).alloc o2))).after hgr hat).kp ((Kp.refl _ _).put (fun b hb => hg b hb.1) _))
  · refine (hq'.kp (kT.kp fun b hb => ?_)).kp (kp2 fun b hb => ⟨fun e => ?_, (hqs b hb.1 hb.2).1⟩)
    · exact ⟨(hqs b hb.1 hb.2).1, h.atn.ne (hqs b hb.1 hb.2).2 hb.2⟩
    · have := hvo b e.symm
      have := hb.2
      omega
  · rw [e]
    exact hO.kp ((Kp.refl _ _).put (fun b hb => by have := hb.1; omega) _)
  · have h1 := (h.turn.trans kT h.atn)
    exact (((h1.alloc o1).alloc o2).grown hgr (.inr hvo)).put _
  · rw [e]
    exact h.atn.trans kA h.turn.size
  · rw [e]
    have h1 := h.ln
    rw [List.length_append, List.length_singleton]
    omega
  · rw [h.same, hmq]
    simp only [refillFrom]
    rw [if_pos hfl]
    simp

theorem J34.less {v1 v4 v3 : Value} {s0 : Ses} {ok okq : Nat → Prop} {lo g : Nat} {w : World} {s s' : Ses} {l l' : List Pkt} {vo vo' : Value} {A2 A2' : Option Addr} {c2 c2' : Nat} {A3 A3' : Option Addr} {c3 c3' : Nat} {wx wx' : World} {m : Msg} {q : List Msg}
    (h' : J34 v1 v4 v3 s0 ok okq lo g w s' l' vo' A2' c2' A3' c3' wx') (h : J34 v1 v4 v3 s0 ok okq lo g w s l vo A2 c2 A3 c3 wx) (hq : s.queue = m :: q) (hq' : s'.queue = q) : waitOf (wx'.cell? ⟨g, 2, none⟩) < waitOf (wx.cell? ⟨g, 2, none⟩) := by
  rw [h'.b.cells 2, h.b.cells 2]
  show s'.queue.length < s.queue.length
  rw [hq, hq', List.length_cons]
  omega

set_option maxRecDepth 100000 in
set_option maxHeartbeats 4000000 in
theorem refill_any (v1 v4 : Value) (s : Ses) (A2 : Option Addr) (c2 : Nat) (A3 : Option Addr) (c3 : Nat) (ok okq : Nat → Prop) (lo g : Nat) (w : World)
    (hb : Blk w g 27 #[.string s.cl, v1, .slice A2 s.queue.length c2, .slice A3 s.flight.length c3, v4, .int .i64 s.nid, .int .i64 s.hd, .int .i64 s.snt])
    (hf : Own 50 kFlt ok lo w (.slice A3 s.flight.length c3) s.flight) (hq : Sl 64 kMsg okq w A2 c2 s.queue) (hqs : ∀ b, okq b → b < w.heap.size → b ≠ g ∧ some b ≠ (Value.slice A3 s.flight.length c3).ownBlock)
    (hlo : lo ≤ w.heap.size) (hg : ∀ b, ok b → b ≠ g) (hfresh : ∀ b, w.heap.size ≤ b → ok b) :
    Calls Try.prog 34 #[.pointer (some ⟨g, 0, none⟩)] w (Post34 v1 v4 (.slice A3 s.flight.length c3) s (refillD s) ok okq lo g w) := by
  have hgl := hb.lt
  have HJ0 := Aside.mk (show J34 v1 v4 (.slice A3 s.flight.length c3) s ok okq lo g w s [] (.slice none 0 0) A2 c2 A3 c3 w from
    ⟨rfl, hb, hf.mono (fun b hb _ => ⟨hb, by simp [Value.ownBlock]⟩), hq.mono (fun b hb hlt => ⟨hb, hlt⟩), Own.nil _ _ _ _ _, Turn.refl _ _ _, .inl rfl, ⟨by simp, .inl rfl⟩, by simp [refillD]⟩)
  have HQS := Aside.mk hqs; have HG := Aside.mk hg; have HFr := Aside.mk hfresh; have HLo := Aside.mk hlo
  clear hb hf hq hqs hg hfresh hlo
  obtain ⟨b0c, b0f, _, _⟩ := HJ0.out.b.all
  go_enter Try.func34, Try.ntmps34
  go_wp2_with fail
  refine wp_scope_jumps 0 (fun a' w' => ∃ (s1 : Ses) (l : List Pkt) (vo : Value) (A2' : Option Addr) (c2' : Nat) (A3' : Option Addr) (c3' : Nat) (u4 u5 u6 u7 u8 u9 u10 u11 u12 u13 u14 u15 u16 u17 u18 u19 u20 u21 u22 u23 u24 u25 u26 u27 u28 u29 u30 u31 u32 u33 u34 u35 u36 u37 u38 u39 u40 u41 u42 u43 u44 u45 u46 u47 u48 u49 u50 u51 u52 : Value), a' = { tmps := #[.pointer (some ⟨g, 0, none⟩), undef, .slice none 0 0, vo, u4, u5, u6, u7, u8, u9, u10, u11, u12, u13, u14, u15, u16, u17, u18, u19, u20, u21, u22, u23, u24, u25, u26, u27, u28, u29, u30, u31, u32, u33, u34, u35, u36, u37, u38, u39, u40, u41, u42, u43, u44, u45, u46, u47, u48, u49, u50, u51, u52], defers := [] } ∧ J34 v1 v4 (.slice A3 s.flight.length c3) s ok okq lo g w s1 l vo A2' c2' A3' c3' w') (fun _ w' => waitOf (w'.cell? ⟨g, 2, none⟩)) rfl ?_ ?_
  · have HJ := HJ0
    go_wp2_with fail
    go_step3
    by_cases hfl : (s.flight.length : Int) < 4
    · have HFL := Aside.mk (show s.flight.length < 4 by omega)
      by_cases hqe : s.queue = []
      · have hd := Aside.mk (refill_none s hqe)
        have hq0 : ¬ (0 : Int) < (s.queue.length : Int) := by simp [hqe]
        have hdd : decide ((0 : Int) < (s.queue.length : Int)) = false := decide_eq_false hq0
        clear hqe
        go_wp2_with fail
        go_ret
        exact HJ.out.done hd.out
      · obtain ⟨m, q, hmq⟩ := List.exists_cons_of_ne_nil hqe
        have hq0 : (0 : Int) < (s.queue.length : Int) := by rw [hmq, List.length_cons]; omega
        have hx : s.queue[0]? = some m := by rw [hmq]; rfl
        obtain ⟨ad, Am, cm, rfl, hP, e0, e1, e2, e3, e4⟩ := msg_at HJ.out.qu.2.2.2 (i := 0) (by omega) hx
        have HMQ := Aside.mk hmq; have HP := Aside.mk hP
        have f0 : w.cell? ad = some (.string m.t) := by simpa [Addr.add] using e0
        have f1 : w.cell? ⟨ad.block, ad.off + 1, none⟩ = some (.slice Am m.p.length cm) := by simpa [Addr.add] using e1
        have f2 : w.cell? ⟨ad.block, ad.off + 2, none⟩ = some (.int .i64 m.q) := by simpa [Addr.add] using e2
        have f3 : w.cell? ⟨ad.block, ad.off + 3, none⟩ = some (.bool m.r) := by simpa [Addr.add] using e3
        have f4 : w.cell? ⟨ad.block, ad.off + 4, none⟩ = some (.int .i64 m.u) := by simpa [Addr.add] using e4
        clear hqe hmq hx hP e0 e1 e2 e3 e4
        go_wp2_with fail
        have hts := HJ.out.turn.size
        refine (send_any s.cl v1 (.slice (some ad) s.queue.length c2) v4 A3 c3 s.flight s.nid s.hd s.snt m Am cm (fun b => okq b ∧ b < w.heap.size) (fun b => ok b ∧ some b ≠ (((.slice none 0 0) : Value)).ownBlock) lo g w HJ.out.b HJ.out.fl HP.out HFL.out (nxt_ne _ _ HFL.out) (nxt_in64 _ _) (by have := HLo.out; omega) (fun b hb => HG.out b hb.1) (fun b hb => ⟨HFr.out b (by omega), fun e => by have := (HJ.out.out.ge b e.symm).2; omega⟩)).mono ?_
        rintro e w1 ⟨Ap, cp, A3s, c3s, rfl, k0, kF, kP, kT, kA⟩
        have K0 := Aside.mk k0; have KF := Aside.mk kF; have KP := Aside.mk kP; have KT := Aside.mk kT; have KA := Aside.mk kA
        obtain ⟨k0c, k0f, _, _⟩ := k0.all
        have hk1 := kT.size
        have hg1 : g < w1.heap.size := by omega
        have hgn : ¬ g = w1.heap.size := by omega
        clear k0 kF kP kT kA f0 f1 f2 f3 f4 b0c b0f
        go_wp2_with (at_builtin; go_must (refine wpList_append_Own (P := Try.prog) _ rfl kPkt (.tmp 32) (.tmp 34) 33 43 rfl (.agg zeroPkt) 184 Try.underlying33 info43 rfl (by decide) (ok := fun b => w.heap.size ≤ b ∧ some b ≠ (Value.slice A3s (s.flight.length + 1) c3s).ownBlock) (okp := fun b => w.heap.size ≤ b ∧ some b ≠ (Value.slice A3s (s.flight.length + 1) c3s).ownBlock) (lo := w.heap.size) (v := (.slice none 0 0)) (xs := []) (ys := [pub m (nxt s.flight s.nid) false]) rfl ?c0 (A := some ⟨w1.heap.size + 1, 0, none⟩) (m := 1) (c := 1) rfl ?c1 ?c2 ?c3 ?c4 ?c5 ?_))
        case c0 => exact (HJ.out.out.turned KT.out (fun b hb => by omega) KA.out).kp (((Kp.refl _ _).alloc _).alloc _)
        case c1 => exact Cf_litAt kPkt (w1.heap.size + 1) (by simp) (pktCells (pub m (nxt s.flight s.nid) false) Ap cp) 43 ⟨Ap, cp, rfl, KP.out.kp ((Kp.refl _ _).alloc _)⟩
        case c2 => exact fun b hb _ => ⟨⟨by have := hb.1; omega, hb.2⟩, fun e => by have := (HJ.out.out.ge b e.symm).2; have := hb.1; omega⟩
        case c3 => exact fun b hb => ⟨by simp at hb; omega, fun e => by have := (KF.out.ge b e.symm).2; simp at hb; omega⟩
        case c4 => simp; omega
        case c5 => have := HJ.out.ln.1; simp <;> omega
        intro v2 w2 hO hgr hat
        have e0 := ((K0.out.alloc _).alloc _).grown hgr (fun e => by have := (HJ.out.out.ge g e.symm).1; omega)
        have HN := Aside.mk (fun A2n c2n nq hnq hq' => J34.next (A2n := A2n) (c2n := c2n) (nq := nq) HJ.out HMQ.out HFL.out hnq HG.out hgl HQS.out K0.out KF.out KT.out KA.out hO hgr (by simpa using hat) hq')
        obtain ⟨e0c, e0f, e0s, e0h⟩ := e0.all
        clear hO hgr hat k0c k0f e0
        by_cases hc2 : c2 = 1
        · have HT := Aside.mk (tail_one HJ.out.qu HMQ.out hc2)
          go_wp2_with fail
          refine (up_any s.hd _).mono ?_
          rintro e w3 ⟨rfl, rfl⟩
          go_wp2_with fail
          go_step3
          exact ⟨rfl, _, _, v2, _, _, A3s, c3s, _, _, _, _, _, _, _, _, _, _, _, _, _, _, _, _, _, _, _, _, _, _, _, _, _, _, _, _, _, _, _, _, _, _, _, _, _, _, _, _, _, _, _, _, _, _, _, _, _, rfl, HN.out _ _ _ HT.out.2 HT.out.1⟩
        · have HT := Aside.mk (tail_more HJ.out.qu HMQ.out hc2)
          go_wp2_with fail
          refine (up_any s.hd _).mono ?_
          rintro e w3 ⟨rfl, rfl⟩
          go_wp2_with fail
          go_step3
          exact ⟨rfl, _, _, v2, _, _, A3s, c3s, _, _, _, _, _, _, _, _, _, _, _, _, _, _, _, _, _, _, _, _, _, _, _, _, _, _, _, _, _, _, _, _, _, _, _, _, _, _, _, _, _, _, _, _, _, _, _, _, _, rfl, HN.out _ _ _ HT.out.2 HT.out.1⟩
    · have hd := Aside.mk (refill_full s (by omega))
      have hfl' : ¬ (s.flight.length : Int) < 4 := hfl
      have hdd : decide ((s.flight.length : Int) < 4) = false := decide_eq_false hfl
      clear hfl
      go_wp2_with fail
      go_ret
      exact HJ.out.done hd.out
  · rintro a' w' ⟨s1, l, vo, A2', c2', A3', c3', u4, u5, u6, u7, u8, u9, u10, u11, u12, u13, u14, u15, u16, u17, u18, u19, u20, u21, u22, u23, u24, u25, u26, u27, u28, u29, u30, u31, u32, u33, u34, u35, u36, u37, u38, u39, u40, u41, u42, u43, u44, u45, u46, u47, u48, u49, u50, u51, u52, rfl, hJ⟩
    have HJ := Aside.mk hJ
    clear hJ b0c b0f
    obtain ⟨b0c, b0f, _, _⟩ := HJ.out.b.all
    by_cases hfl : (s1.flight.length : Int) < 4
    · have HFL := Aside.mk (show s1.flight.length < 4 by omega)
      by_cases hqe : s1.queue = []
      · have hd := Aside.mk (refill_none s1 hqe)
        have hq0 : ¬ (0 : Int) < (s1.queue.length : Int) := by simp [hqe]
        have hdd : decide ((0 : Int) < (s1.queue.length : Int)) = false := decide_eq_false hq0
        clear hqe
        go_wp2_with fail
        go_ret
        exact HJ.out.done hd.out
      · obtain ⟨m, q, hmq⟩ := List.exists_cons_of_ne_nil hqe
        have hq0 : (0 : Int) < (s1.queue.length : Int) := by rw [hmq, List.length_cons]; omega
        have hx : s1.queue[0]? = some m := by rw [hmq]; rfl
        obtain ⟨ad, Am, cm, rfl, hP, e0, e1, e2, e3, e4⟩ := msg_at HJ.out.qu.2.2.2 (i := 0) (by omega) hx
        have HMQ := Aside.mk hmq; have HP := Aside.mk hP
        have f0 : w'.cell? ad = some (.string m.t) := by simpa [Addr.add] using e0
        have f1 : w'.cell? ⟨ad.block, ad.off + 1, none⟩ = some (.slice Am m.p.length cm) := by simpa [Addr.add] using e1
        have f2 : w'.cell? ⟨ad.block, ad.off + 2, none⟩ = some (.int .i64 m.q) := by simpa [Addr.add] using e2
        have f3 : w'.cell? ⟨ad.block, ad.off + 3, none⟩ = some (.bool m.r) := by simpa [Addr.add] using e3
        have f4 : w'.cell? ⟨ad.block, ad.off + 4, none⟩ = some (.int .i64 m.u) := by simpa [Addr.add] using e4
        clear hqe hmq hx hP e0 e1 e2 e3 e4
        go_wp2_with fail
        have hts := HJ.out.turn.size
        refine (send_any s1.cl v1 (.slice (some ad) s1.queue.length c2') v4 A3' c3' s1.flight s1.nid s1.hd s1.snt m Am cm (fun b => okq b ∧ b < w.heap.size) (fun b => ok b ∧ some b ≠ ((vo : Value)).ownBlock) lo g w' HJ.out.b HJ.out.fl HP.out HFL.out (nxt_ne _ _ HFL.out) (nxt_in64 _ _) (by have := HLo.out; omega) (fun b hb => HG.out b hb.1) (fun b hb => ⟨HFr.out b (by omega), fun e => by have := (HJ.out.out.ge b e.symm).2; omega⟩)).mono ?_
        rintro e w1 ⟨Ap, cp, A3s, c3s, rfl, k0, kF, kP, kT, kA⟩
        have K0 := Aside.mk k0; have KF := Aside.mk kF; have KP := Aside.mk kP; have KT := Aside.mk kT; have KA := Aside.mk kA
        obtain ⟨k0c, k0f, _, _⟩ := k0.all
        have hk1 := kT.size
        have hg1 : g < w1.heap.size := by omega
        have hgn : ¬ g = w1.heap.size := by omega
        clear k0 kF kP kT kA f0 f1 f2 f3 f4 b0c b0f
        go_wp2_with (at_builtin; go_must (refine wpList_append_Own (P := Try.prog) _ rfl kPkt (.tmp 32) (.tmp 34) 33 43 rfl (.agg zeroPkt) 184 Try.underlying33 info43 rfl (by decide) (ok := fun b => w.heap.size ≤ b ∧ some b ≠ (Value.slice A3s (s1.flight.length + 1) c3s).ownBlock) (okp := fun b => w'.heap.size ≤ b ∧ some b ≠ (Value.slice A3s (s1.flight.length + 1) c3s).ownBlock) (lo := w.heap.size) (v := vo) (xs := l) (ys := [pub m (nxt s1.flight s1.nid) false]) rfl ?c0 (A := some ⟨w1.heap.size + 1, 0, none⟩) (m := 1) (c := 1) rfl ?c1 ?c2 ?c3 ?c4 ?c5 ?_))
        case c0 => exact (HJ.out.out.turned KT.out (fun b hb => by omega) KA.out).kp (((Kp.refl _ _).alloc _).alloc _)
        case c1 => exact Cf_litAt kPkt (w1.heap.size + 1) (by simp) (pktCells (pub m (nxt s1.flight s1.nid) false) Ap cp) 43 ⟨Ap, cp, rfl, KP.out.kp ((Kp.refl _ _).alloc _)⟩
        case c2 => exact fun b hb _ => ⟨⟨by have := hb.1; omega, hb.2⟩, fun e => by have := (HJ.out.out.ge b e.symm).2; have := hb.1; omega⟩
        case c3 => exact fun b hb => ⟨by simp at hb; omega, fun e => by have := (KF.out.ge b e.symm).2; simp at hb; omega⟩
        case c4 => simp; omega
        case c5 => have := HJ.out.ln.1; simp <;> omega
        intro v2 w2 hO hgr hat
        have e0 := ((K0.out.alloc _).alloc _).grown hgr (fun e => by have := (HJ.out.out.ge g e.symm).1; omega)
        have HN := Aside.mk (fun A2n c2n nq hnq hq' => J34.next (A2n := A2n) (c2n := c2n) (nq := nq) HJ.out HMQ.out HFL.out hnq HG.out hgl HQS.out K0.out KF.out KT.out KA.out hO hgr (by simpa using hat) hq')
        obtain ⟨e0c, e0f, e0s, e0h⟩ := e0.all
        clear hO hgr hat k0c k0f e0
        by_cases hc2 : c2' = 1
        · have HT := Aside.mk (tail_one HJ.out.qu HMQ.out hc2)
          go_wp2_with fail
          refine (up_any s1.hd _).mono ?_
          rintro e w3 ⟨rfl, rfl⟩
          go_wp2_with fail
          go_step3
          refine ⟨rfl, ⟨_, _, v2, _, _, A3s, c3s, _, _, _, _, _, _, _, _, _, _, _, _, _, _, _, _, _, _, _, _, _, _, _, _, _, _, _, _, _, _, _, _, _, _, _, _, _, _, _, _, _, _, _, _, _, _, _, _, _, rfl, HN.out _ _ _ HT.out.2 HT.out.1⟩, ?_⟩
          exact (HN.out _ _ _ HT.out.2 HT.out.1).less HJ.out HMQ.out rfl
        · have HT := Aside.mk (tail_more HJ.out.qu HMQ.out hc2)
          go_wp2_with fail
          refine (up_any s1.hd _).mono ?_
          rintro e w3 ⟨rfl, rfl⟩
          go_wp2_with fail
          go_step3
          refine ⟨rfl, ⟨_, _, v2, _, _, A3s, c3s, _, _, _, _, _, _, _, _, _, _, _, _, _, _, _, _, _, _, _, _, _, _, _, _, _, _, _, _, _, _, _, _, _, _, _, _, _, _, _, _, _, _, _, _, _, _, _, _, _, rfl, HN.out _ _ _ HT.out.2 HT.out.1⟩, ?_⟩
          exact (HN.out _ _ _ HT.out.2 HT.out.1).less HJ.out HMQ.out rfl
    · have hd := Aside.mk (refill_full s1 (by omega))
      have hfl' : ¬ (s1.flight.length : Int) < 4 := hfl
      have hdd : decide ((s1.flight.length : Int) < 4) = false := decide_eq_false hfl
      clear hfl
      go_wp2_with fail
      go_ret
      exact HJ.out.done hd.out
end Go.Proofs.Ytmeeldcgmfplnaa
