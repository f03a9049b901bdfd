/-
  Contract: session.Resume.
-/
import Derived.Test.YtmeeldcgmfplnaaW14
set_option linter.unusedVariables false
set_option linter.unusedSimpArgs false
namespace Go.Proofs.Ytmeeldcgmfplnaa
open Go.RowKit
attribute [local go_sem] setRow_setCell_same setRow_setCell_other setRow_cell_same setRow_cell_other setRow_frozen setRow_shape
attribute [local go_sem ↓] Go.wp_at_zero Go.wp_at_succ

/-- A packet of a kind and an id alone. -/
def bareP (kind id : Int) : Pkt := ⟨kind, id, false, ⟨⟨#[]⟩, [], 0, false, 0⟩⟩
/-- What a flight tells again. -/
def redo (f : Flt) : List Pkt := if f.st = 1 then [pub f.m f.id true] else if f.st = 2 then [bareP 6 f.id] else []
def redoL (fs : List Flt) : List Pkt := fs.flatMap redo
def resumeD (s : Ses) : Ses × List Pkt := ((refillD s).1, redoL s.flight ++ (refillD s).2)

theorem redoL_snoc (fs : List Flt) (f : Flt) : redoL (fs ++ [f]) = redoL fs ++ redo f := by simp [redoL]
theorem redoL_len (fs : List Flt) : (redoL fs).length ≤ fs.length := by
  induction fs with
  | nil => simp [redoL]
  | cons f fs ih =>
    have h1 : (redo f).length ≤ 1 := by
      unfold redo
      split
      · simp
      · split <;> simp
    have h2 : redoL (f :: fs) = redo f ++ redoL fs := by simp [redoL]
    rw [h2, List.length_append, List.length_cons]
    omega
theorem refillFrom_len : ∀ (q : List Msg) (s : Ses), (refillFrom q s).2.length ≤ 4 - s.flight.length
  | [], s => by simp [refillFrom]
  | m :: q, s => by
    simp only [refillFrom]
    split
    · have h : ∀ X : Ses, X.flight.length = s.flight.length + 1 → (refillFrom q X).2.length + 1 ≤ 4 - s.flight.length := fun X hX => by
        have := refillFrom_len q X
        rw [hX] at this
        omega
      exact h _ (by simp [sendS])
    · simp
theorem refillFrom_fl : ∀ (q : List Msg) (s : Ses), (refillFrom q s).1.flight.length ≤ s.flight.length + 4
  | [], s => by simp [refillFrom]
  | m :: q, s => by
    have h : ∀ (q : List Msg) (s : Ses), s.flight.length ≤ 4 → (refillFrom q s).1.flight.length ≤ 4 := by
      intro q
      induction q with
      | nil => intro s hs; simpa [refillFrom] using hs
      | cons m q ih =>
        intro s hs
        simp only [refillFrom]
        split
        · refine ih _ ?_
          simp [sendS]
          omega
        · exact hs
    simp only [refillFrom]
    split
    · have := h q { sendS s m with queue := q, hd := up s.hd } (by simp [sendS]; omega)
      show (refillFrom q { sendS s m with queue := q, hd := up s.hd }).1.flight.length ≤ s.flight.length + 4
      omega
    · simp
theorem refillFrom_same : ∀ (q : List Msg) (s : Ses), (refillFrom q s).1.cl = s.cl ∧ (refillFrom q s).1.subs = s.subs ∧ (refillFrom q s).1.ids = s.ids
  | [], s => ⟨rfl, rfl, rfl⟩
  | m :: q, s => by
    simp only [refillFrom]
    split
    · exact refillFrom_same q { sendS s m with queue := q, hd := up s.hd }
    · exact ⟨rfl, rfl, rfl⟩
theorem refillD_same (s : Ses) : (refillD s).1.cl = s.cl ∧ (refillD s).1.subs = s.subs ∧ (refillD s).1.ids = s.ids := refillFrom_same s.queue s
theorem Kp.turn {ok : Nat → Prop} {w w1 w2 : World} {g : Nat} {row : Option Nat} (h : Kp ok w w1) (k : Turn g row w1 w2) (hok : ∀ b, ok b → b ≠ g ∧ some b ≠ row) : Kp ok w w2 :=
  ⟨Nat.le_trans h.1 k.size, fun b hb hlt => (k.block b (by have := h.1; omega) (hok b hb).1 (hok b hb).2).trans (h.2 b hb hlt)⟩

/-- What such a function leaves: a session and packets. -/
def Post18 (r : Ses × List Pkt) (w : World) (e : Ending) (w' : World) : Prop :=
  ∃ vs vp, e = .returned (.tuple #[vs, vp]) ∧ IsSesIn (fun b => w.heap.size ≤ b) w' vs r.1 ∧ IsPktsIn (fun b => w.heap.size ≤ b) w' vp r.2 ∧ Below w.heap.size w w'

/-- Behind own: the session's variable, the result's. -/
structure R18 (s : Ses) (w wx : World) (A1 : Option Addr) (c1 : Nat) (A2 : Option Addr) (c2 : Nat) (A3 : Option Addr) (c3 : Nat) (A4 : Option Addr) (c4 : Nat) : Prop where
  b1 : Blk wx w.heap.size 27 (sesCells s A1 c1 A2 c2 A3 c3 A4 c4)
  b2 : Blk wx (w.heap.size + 1) 27 zeroSes
  own : OwnSes (w.heap.size + 2) wx s (.slice A1 s.subs.length c1) (.slice A2 s.queue.length c2) (.slice A3 s.flight.length c3) (.slice A4 s.ids.length c4)
  below : Below w.heap.size w wx

/-- In the loop: so many flights have been told. -/
structure R18b (s : Ses) (w0 : World) (k : Nat) (v : Value) (wx : World) : Prop where
  out : Own 43 kPkt (fun b => w0.heap.size ≤ b) w0.heap.size wx v (redoL (s.flight.take k))
  below : Below w0.heap.size w0 wx

theorem R18b.start (s : Ses) (w0 : World) : R18b s w0 0 (.slice none 0 0) w0 := ⟨by simpa [redoL] using Own.nil _ _ _ _ _, Below.refl _ _⟩
theorem R18b.step {s : Ses} {w0 : World} {k : Nat} {v : Value} {wx wl w2 : World} {v2 : Value} {x : Flt} {ps : List Pkt} (h : R18b s w0 k v wx) (hb : Below wx.heap.size wx wl) (hx : s.flight[k]? = some x) (hr : redo x = ps)
    (hO : Own 43 kPkt (fun b => w0.heap.size ≤ b) w0.heap.size w2 v2 (redoL (s.flight.take k) ++ ps)) (hg : wl.grownBy w2 v.ownBlock) : R18b s w0 (k + 1) v2 w2 where
  out := by
    have hlt := (List.getElem?_eq_some_iff.1 hx).1
    have hv := (List.getElem?_eq_some_iff.1 hx).2
    rw [take_snoc _ _ hlt, hv, redoL_snoc, hr]
    exact hO
  below := by
    have h1 := below_all h.below h.below.size hb
    exact h1.grown hg h1.size (fun g hg' => (h.out.ge g hg').1)
theorem R18b.skip {s : Ses} {w0 : World} {k : Nat} {v : Value} {wx wl : World} {x : Flt} (h : R18b s w0 k v wx) (hb : Below wx.heap.size wx wl) (hx : s.flight[k]? = some x) (hr : redo x = []) : R18b s w0 (k + 1) v wl where
  out := by
    have hlt := (List.getElem?_eq_some_iff.1 hx).1
    have hv := (List.getElem?_eq_some_iff.1 hx).2
    rw [take_snoc _ _ hlt, hv, redoL_snoc, hr, List.append_nil]
    exact h.out.below hb
  below := below_all h.below h.below.size hb

set_option maxRecDepth 100000 in
set_option maxHeartbeats 4000000 in
theorem resume_any (s : Ses) (A1 : Option Addr) (c1 : Nat) (A2 : Option Addr) (c2 : Nat) (A3 : Option Addr) (c3 : Nat) (A4 : Option Addr) (c4 : Nat) (ok : Nat → Prop) (w : World)
    (h : RdSes ok w s A1 c1 A2 c2 A3 c3 A4 c4) (hf : s.flight.length ≤ 100) :
    Calls Try.prog 18 #[.agg (sesCells s A1 c1 A2 c2 A3 c3 A4 c4)] w (Post18 (resumeD s) w) := by
  have hl1 := h.subs.2.2.1; have hl2 := h.queue.2.2.1; have hl3 := h.flight.2.2.1; have hl4 := h.ids.2.2.1
  have H := Aside.mk h
  clear h
  simp only [sesCells]
  go_enter Try.func18, Try.ntmps18
  go_upto_region 1 with fail
  go_cut [] (fun wx => ∃ A1' c1' A2' c2' A3' c3' A4' c4', R18 s w wx A1' c1' A2' c2' A3' c3' A4' c4')
  case first =>
    go_wp2_with fail
    refine (own_any' s A1 c1 A2 c2 A3 c3 A4 c4 ok _ ?hS).mono ?_
    case hS => exact H.out.below (by repeat (first | exact Below.refl _ _ | refine Below.drew ?_ | (refine Below.alloc ?_ (by simp <;> omega) _)))
    rintro e w1 ⟨A1', c1', A2', c2', A3', c3', A4', c4', rfl, hO, hb1⟩
    have d0 := ((Blk.new w 27 _).alloc _).below hb1 (by simp <;> omega)
    have d2 := (Blk.newAt _ (w.heap.size + 1) (by simp) 27 _).below hb1 (by simp <;> omega)
    have hB1 : Below w.heap.size w w1 := Below.trans (by repeat (first | exact Below.refl _ _ | refine Below.drew ?_ | (refine Below.alloc ?_ (by simp <;> omega) _))) (hb1.mono (by simp; omega))
    have HR := Aside.mk (show R18 s w (w1.setRow w.heap.size (sesCells s A1' c1' A2' c2' A3' c3' A4' c4')) A1' c1' A2' c2' A3' c3' A4' c4' from
      ⟨d0.put _, d2.other (by omega) _, hO.kp ((Kp.refl _ _).put (fun b hb => by simp at hb; omega) _) (by simp), below_put hB1 (Nat.le_refl _) _⟩)
    obtain ⟨d0c, d0f, d0s, d0h⟩ := d0.all
    clear hO hb1 d0 d2 hB1
    go_wp2_with fail
    go_meet
    exact ⟨A1', c1', A2', c2', A3', c3', A4', c4', HR.out⟩
  case rest =>
    obtain ⟨A1', c1', A2', c2', A3', c3', A4', c4', hR⟩ := hcut
    obtain ⟨d0c, d0f, d0s, d0h⟩ := hR.b1.all
    have hsz : w.heap.size + 2 ≤ wc.heap.size := by have := hR.b2.lt; omega
    have hfr := Aside.mk ((hR.own.rd hl1 hl2 hl3 hl4).flight)
    have HR := Aside.mk hR
    clear hR
    go_wp2_with fail
    go_loopw [4, 12] (fun v i wr => ∃ k : Nat, k ≤ s.flight.length ∧ i = .int .i64 k ∧ R18b s wc k v wr) (fun _ i _ => s.flight.length - (intOf i).toNat)
    case atStart => exact ⟨0, Nat.zero_le _, rfl, R18b.start _ _⟩
    case round =>
      obtain ⟨k, hk, rfl, hR⟩ := hrel
      clear d0c d0f d0s d0h
      by_cases hlt : k < s.flight.length
      · have hlt' : (k : Int) < (s.flight.length : Int) := by omega
        have hk0 : (0 : Int) ≤ (k : Int) := by omega
        have hx : s.flight[k]? = some s.flight[k] := List.getElem?_eq_getElem hlt
        obtain ⟨ad, A', c', hAd, hP, hw, e0, e1, e2, e3, e4, e5, e6, e7⟩ := flt_at (hfr.out.below hR.below).2.2.2 hlt hx
        obtain rfl := hAd
        generalize hxq : s.flight[k] = x at hx hP hw e0 e1 e2 e3 e4 e5 e6 e7
        have HX := Aside.mk hx; have HP := Aside.mk hP; have HR := Aside.mk hR
        clear hx hP hR hxq hw
        by_cases h1 : x.st = 1
        · have h1' : (x.st == 1) = true := by simpa using h1
          have HD := Aside.mk (show redo x = [pub x.m x.id true] by simp [redo, h1])
          clear h1
          go_wp2_with fail
          refine (publish_any x.m A' c' (fun b => w.heap.size + 2 ≤ b) x.id true _ ?hS).mono ?_
          case hS => exact HP.out.below ((Below.refl _ _).alloc (Nat.le_refl _) _)
          rintro e w1 ⟨A'', c'', rfl, hP2, hb1⟩
          have hs1 : wr.heap.size + 1 ≤ w1.heap.size := by have := hb1.size; simp at this; omega
          have HP2 := Aside.mk hP2
          have HB1 := Aside.mk (Below.trans ((Below.refl wr.heap.size wr).alloc (Nat.le_refl _) _) (hb1.mono (by simp)))
          clear hP2 hb1
          have hbl := Aside.mk (show Below wr.heap.size wr (w1.alloc (.cells (pktCells (pub x.m x.id true) A'' c'').toArray 43)) from HB1.out.alloc (by omega) _)
          go_wp2_with (at_builtin; go_must (refine wpList_append_Own (P := Try.prog) _ rfl kPkt (.tmp 20) (.tmp 26) 33 43 rfl (.agg zeroPkt) 184 Try.underlying33 info43 rfl (by decide) (ok := fun b => wc.heap.size ≤ b) (okp := fun b => wr.heap.size + 1 ≤ b ∧ b < w1.heap.size ∨ b = w1.heap.size) (lo := wc.heap.size) (v := u4) (xs := redoL (s.flight.take k)) (ys := [pub x.m x.id true]) rfl ?c0 (A := some ⟨w1.heap.size, 0, none⟩) (m := 1) (c := 1) rfl ?c1 ?c2 ?c3 ?c4 ?c5 ?_))
          case c0 => exact HR.out.out.below hbl.out
          case c1 => exact Kn.C_free (C_litAt kPkt w1.heap.size rfl (pktCells (pub x.m x.id true) A'' c'') 43 ⟨A'', c'', rfl, HP2.out.mono (fun b hb _ => by simpa using hb)⟩)
          case c2 =>
            have hq := fun g hg => (HR.out.out.ge g hg).2
            have hz := HR.out.below.size
            intro b hb _
            refine ⟨by rcases hb with hb | hb <;> omega, fun he => ?_⟩
            have := hq b he.symm
            rcases hb with hb | hb <;> omega
          case c3 => exact fun b hb => by have hz := HR.out.below.size; simp at hb; omega
          case c4 => have hz := HR.out.below.size; simp; omega
          case c5 =>
            have h1 := redoL_len (s.flight.take k)
            rw [List.length_take] at h1
            rw [List.length_singleton]
            omega
          intro v2 w2 hO hg hat
          have HN := Aside.mk (R18b.step HR.out hbl.out HX.out HD.out hO hg)
          clear hO hg hat hbl e0 e1 e2 e3 e4 e5 e6 e7 HP2 HB1 HP HX HR h1'
          go_wp2_with fail
          go_roundw
          case rel => exact ⟨k + 1, by omega, by go_num, HN.out⟩
          case measure => simp [intOf]; omega
        · have h1' : (x.st == 1) = false := by simpa using h1
          by_cases h2 : x.st = 2
          · have h2' : (x.st == 2) = true := by simpa using h2
            have HD := Aside.mk (show redo x = [bareP 6 x.id] by simp [redo, h2])
            clear h1 h2
            have hbl := Aside.mk (show Below wr.heap.size wr ((wr.alloc (.cells (fltCells x A' c').toArray 50)).alloc (.cells (pktCells (bareP 6 x.id) none 0).toArray 43)) from ((Below.refl _ _).alloc (Nat.le_refl _) _).alloc (by simp) _)
            go_wp2_with (at_builtin; go_must (refine wpList_append_Own (P := Try.prog) _ rfl kPkt (.tmp 30) (.tmp 34) 33 43 rfl (.agg zeroPkt) 184 Try.underlying33 info43 rfl (by decide) (ok := fun b => wc.heap.size ≤ b) (okp := fun b => b = wr.heap.size + 1) (lo := wc.heap.size) (v := u4) (xs := redoL (s.flight.take k)) (ys := [bareP 6 x.id]) rfl ?c0 (A := some ⟨wr.heap.size + 1, 0, none⟩) (m := 1) (c := 1) rfl ?c1 ?c2 ?c3 ?c4 ?c5 ?_))
            case c0 => exact HR.out.out.below hbl.out
            case c1 => exact Kn.C_free (Kn.C_mono (fun b hb _ => by simpa using hb) (C_litAt kPkt (okp := fun _ => False) (wr.heap.size + 1) (by simp) (pktCells (bareP 6 x.id) none 0) 43 ⟨none, 0, rfl, Sl.nil _ _ _ _⟩))
            case c2 =>
              have hq := fun g hg => (HR.out.out.ge g hg).2
              have hz := HR.out.below.size
              intro b hb _
              refine ⟨by omega, fun he => ?_⟩
              have := hq b he.symm
              omega
            case c3 => exact fun b hb => by have hz := HR.out.below.size; simp at hb; omega
            case c4 => have hz := HR.out.below.size; simp; omega
            case c5 =>
              have h1 := redoL_len (s.flight.take k)
              rw [List.length_take] at h1
              rw [List.length_singleton]
              omega
            intro v2 w2 hO hg hat
            have HN := Aside.mk (R18b.step HR.out hbl.out HX.out HD.out hO hg)
            clear hO hg hat hbl e0 e1 e2 e3 e4 e5 e6 e7 HP HX HR h1' h2'
            go_wp2_with fail
            go_roundw
            case rel => exact ⟨k + 1, by omega, by go_num, HN.out⟩
            case measure => simp [intOf]; omega
          · have h2' : (x.st == 2) = false := by simpa using h2
            have HD := Aside.mk (show redo x = [] by simp [redo, h1, h2])
            clear h1 h2
            have HN := Aside.mk (R18b.skip (wl := wr.alloc (.cells (fltCells x A' c').toArray 50)) HR.out ((Below.refl _ _).alloc (Nat.le_refl _) _) HX.out HD.out)
            clear HP HX HR
            go_wp2_with fail
            go_roundw
            case rel => exact ⟨k + 1, by omega, by go_num, HN.out⟩
            case measure => simp [intOf]; omega
      · have hke : k = s.flight.length := by omega
        have hge : decide (k < s.flight.length) = false := by simp; omega
        subst hke
        have hO := hR.out
        rw [List.take_length] at hO
        have d0 := HR.out.b1.belowAll hR.below
        have HB2 := Aside.mk (HR.out.b2.belowAll hR.below)
        have HB := Aside.mk hR.below
        have hz := hR.below.size
        have HO := Aside.mk hO
        have hof := HR.out.own.flight
        have hv3 := fun g hg => (HR.out.own.flight.ge g hg)
        have hv2 := fun g hg => (HR.out.own.queue.ge g hg)
        obtain ⟨A2q, c2q, eq2, hS2⟩ := HR.out.own.queue.reads (bytes := 64) hl2
        injection eq2 with eq2 _ eq2'
        subst eq2 eq2'
        have HF := Aside.mk (((HR.out.own.flight.mono (ok' := fun b => ((w.heap.size + 2 ≤ b ∧ some b ≠ (Value.slice A2' s.queue.length c2').ownBlock) ∧ (b < wc.heap.size ∨ wr.heap.size ≤ b)) ∧ b < wc.heap.size) (fun b hb hlt => ⟨⟨hb, .inl hlt⟩, hlt⟩)).kp ⟨hz, fun b hb hlt => hR.below.block b hb.2⟩).mono (fun b hb _ => hb.1))
        have HQ := Aside.mk ((hS2.mono (ok' := fun b => ((w.heap.size + 2 ≤ b ∧ some b ≠ (Value.slice A3' s.flight.length c3').ownBlock) ∧ b < wc.heap.size)) (fun b hb hlt => ⟨hb, hlt⟩)).kp ⟨hz, fun b hb hlt => hR.below.block b hb.2⟩)
        have HV3 := Aside.mk hv3; have HV2 := Aside.mk hv2
        obtain ⟨d0c, d0f, d0s, d0h⟩ := d0.all
        have D0 := Aside.mk d0
        clear hR hO hof hv3 hv2 d0 hS2 hlt hk
        go_wp2_with fail
        refine (refill_any (.slice A1' s.subs.length c1') (.slice A4' s.ids.length c4') s A2' c2' A3' c3' (fun b => (w.heap.size + 2 ≤ b ∧ some b ≠ (Value.slice A2' s.queue.length c2').ownBlock) ∧ (b < wc.heap.size ∨ wr.heap.size ≤ b)) (fun b => (w.heap.size + 2 ≤ b ∧ some b ≠ (Value.slice A3' s.flight.length c3').ownBlock) ∧ b < wc.heap.size) (w.heap.size + 2) w.heap.size wr D0.out HF.out HQ.out ?q1 ?q2 ?q3 ?q4).mono ?_
        case q1 => exact fun b hb hlt => ⟨by have := hb.1.1; omega, hb.1.2⟩
        case q2 => omega
        case q3 => exact fun b hb => by have := hb.1.1; omega
        case q4 => exact fun b hb => ⟨⟨by omega, fun e => by have := (HV2.out b e.symm).2; omega⟩, .inr hb⟩
        rintro e w1 ⟨Ap, cp, A2s, c2s, A3s, c3s, rfl, k0, kF, kQ, kP, kT, kA⟩
        obtain ⟨q1, q2, q3⟩ := refillD_same s
        have q4 := refillFrom_len s.queue s
        have q5 := refillFrom_fl s.queue s
        have hD : resumeD s = ((refillD s).1, redoL s.flight ++ (refillD s).2) := rfl
        change (refillD s).2.length ≤ _ at q4
        change (refillD s).1.flight.length ≤ _ at q5
        generalize refillD s = r at *
        have hz1 := kT.size
        have K0 := Aside.mk k0; have KF := Aside.mk kF; have KQ := Aside.mk kQ; have KP := Aside.mk kP; have KT := Aside.mk kT; have KA := Aside.mk kA; have HD := Aside.mk hD; have Q := Aside.mk (And.intro q1 (And.intro q2 q3))
        have HL := redoL_len s.flight
        clear k0 kF kQ kP kT kA hD q1 q2 q3 d0c d0f d0s d0h
        go_wp2_with (at_builtin; go_must (refine wpList_append_Own (P := Try.prog) _ rfl kPkt (.tmp 37) (.tmp 38) 33 43 rfl (.agg zeroPkt) 184 Try.underlying33 info43 rfl (by decide) (ok := fun b => wc.heap.size ≤ b ∧ some b ≠ (Value.slice A3s r.1.flight.length c3s).ownBlock) (okp := fun b => wr.heap.size ≤ b ∧ some b ≠ (Value.slice A3s r.1.flight.length c3s).ownBlock) (lo := wc.heap.size) (v := u4) (xs := redoL s.flight) (ys := r.2) rfl ?c6 (A := Ap) (m := r.2.length) (c := cp) rfl ?c7 ?c8 ?c9 ?c10 ?c11 ?_))
        case c6 =>
          refine (HO.out.mono (ok' := fun b => (wc.heap.size ≤ b ∧ some b ≠ (Value.slice A3s r.1.flight.length c3s).ownBlock) ∧ wc.heap.size ≤ b) (fun b hb hlt => ⟨⟨hb, KA.out.ne (fun e => by have := (HV3.out b e.symm).2; omega) hlt⟩, hb⟩)).kp (KT.out.kp fun b hb => ⟨by omega, fun e => by have := (HV3.out b e.symm).2; omega⟩) |>.mono (fun b hb _ => hb.1)
        case c7 => exact Kn.C_free KP.out.2.2.2
        case c8 => exact fun b hb _ => ⟨⟨by have := hb.1; omega, hb.2⟩, fun e => by have := (HO.out.ge b e.symm).2; have := hb.1; omega⟩
        case c9 => exact fun b hb => ⟨by omega, fun e => by have := (KF.out.ge b e.symm).2; omega⟩
        case c10 => omega
        case c11 => omega
        intro v2 w2 hO hg hat
        have hub := fun b hb => HO.out.ge b hb
        have k0 := K0.out.grown hg (fun e => by have := (hub _ e.symm).1; omega)
        have k2 := (KT.out.blk HB2.out (by omega) (fun e => by have := (HV3.out _ e.symm).1; omega)).grown hg (fun e => by have := (hub _ e.symm).1; omega)
        obtain ⟨k0c, k0f, k0s, k0h⟩ := k0.all
        obtain ⟨k2c, k2f, k2s, k2h⟩ := k2.all
        have K2 := Aside.mk k2; have HO2 := Aside.mk hO; have HG := Aside.mk hg; have HU := Aside.mk hub
        clear k0 k2 hO hg hat hub
        go_wp2_with fail
        refine bodyPost_ret (res_ct rfl _ _ (w.heap.size + 1) 27 _ _ rfl (K2.out.put _) Try.underlying27 rfl (by kernel_rfl)) rfl ?_
        obtain ⟨q1, q2, q3⟩ := Q.out
        rw [HD.out]
        have hl : (redoL s.flight ++ r.2).length * 184 ≤ 140737488355328 := by rw [List.length_append]; omega
        obtain ⟨Ao, co, rfl, hSo⟩ := HO2.out.reads hl
        obtain ⟨A1q, c1q, e1, hS1⟩ := HR.out.own.subs.reads (bytes := 24) hl1
        obtain ⟨A4q, c4q, e4, hS4⟩ := HR.out.own.ids.reads (bytes := 8) hl4
        injection e1 with e1 _ e1'; injection e4 with e4 _ e4'
        subst e1 e1' e4 e4'
        obtain ⟨A3q, c3q, e3, hS3⟩ := KF.out.reads (bytes := 88) (by omega)
        injection e3 with e3 _ e3'
        subst e3 e3'
        have KK : ∀ {P : Nat → Prop} (a : Array Value), (∀ b, P b → (b < wc.heap.size ∨ wr.heap.size ≤ b) ∧ w.heap.size + 2 ≤ b) → Kp P w1 (w2.setRow (w.heap.size + 1) a) := fun a hP =>
          (((Kp.refl _ _).grown HG.out (fun b hb e => by have := HU.out b e.symm; have := (hP b hb).1; omega)).put (fun b hb => by have := (hP b hb).2; omega) _)
        have KK0 : ∀ (a : Array Value), Kp (fun b => ((w.heap.size + 2 ≤ b ∧ some b ≠ (Value.slice A2' s.queue.length c2').ownBlock) ∧ some b ≠ (Value.slice A3' s.flight.length c3').ownBlock) ∧ b < wc.heap.size) wc (w2.setRow (w.heap.size + 1) a) := fun a =>
          (((((Kp.refl _ _).below HB.out).turn KT.out (fun b hb => ⟨by have := hb.1.1.1; omega, hb.1.2⟩)).grown HG.out (fun b hb e => by have := HU.out b e.symm; have := hb.2; omega)).put (fun b hb => by have := hb.1.1.1; omega) _)
        refine ⟨_, _, rfl, ⟨A1', c1', A2s, c2s, A3s, c3s, A4', c4', by rw [← q1, ← q2, ← q3], ?_, ?_, ?_, ?_⟩, ⟨Ao, co, rfl, ?_⟩, ?_⟩
        · rw [q2]
          exact ((hS1.mono (fun b hb hlt => ⟨hb, hlt⟩)).kp (KK0 _)).mono (fun b hb _ => by have := hb.1.1.1; omega)
        · exact (KQ.out.kp (KK _ (fun b hb => ⟨.inl hb.2, hb.1.1⟩))).mono (fun b hb _ => by have := hb.1.1; omega)
        · exact (hS3.kp (KK _ (fun b hb => ⟨hb.2, hb.1.1⟩))).mono (fun b hb _ => by have := hb.1.1; omega)
        · rw [q3]
          exact ((hS4.mono (fun b hb hlt => ⟨hb, hlt⟩)).kp (KK0 _)).mono (fun b hb _ => by have := hb.1.1.1; omega)
        · exact (hSo.kp ((Kp.refl _ _).put (fun b hb => by have := hb.1; omega) _)).mono (fun b hb _ => by have := hb.1; omega)
        · have h1 := below_all HR.out.below HR.out.below.size HB.out
          have h2 := h1.trans (KT.out.toBelow (B := w.heap.size) (by omega) (Nat.le_refl _) (fun b hb => by have := (HV3.out b hb).1; omega))
          exact below_put (h2.grown HG.out h2.size (fun b hb => by have := (HU.out b hb).1; omega)) (by omega) _
end Go.Proofs.Ytmeeldcgmfplnaa
