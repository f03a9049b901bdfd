/-
  Contracts: session.done, session.answered.
-/
import Derived.Test.YtmeeldcgmfplnaaW19
import Derived.Test.YtmeeldcgmfplnaaW20
set_option linter.unusedVariables false
set_option linter.unusedSimpArgs false
namespace Go.Proofs.Ytmeeldcgmfplnaa
open Go.RowKit
attribute [local go_sem] setRow_setCell_same setRow_setCell_other setRow_cell_same setRow_cell_other setRow_frozen setRow_shape
attribute [local go_sem ↓] Go.wp_at_zero Go.wp_at_succ

/-- A session less the flight at a place. -/
def lessS (s : Ses) (i : Nat) : Ses := { s with flight := s.flight.eraseIdx i }
/-- done: -1: nothing. -/
def doneD (s : Ses) : Option Nat → Ses × List Pkt
  | none => (s, [])
  | some i => refillD (lessS s i)
def placeI : Option Nat → Int
  | none => -1
  | some i => i

theorem ownBlock_len (A : Option Addr) (n c m d : Nat) : (Value.slice A n c).ownBlock = (Value.slice A m d).ownBlock := by cases A <;> rfl
theorem AtOrNew.from {v v1 v2 : Value} {n m : Nat} (h : AtOrNew v1 v2 m) (e : v1.ownBlock = v.ownBlock) (hm : n ≤ m) : AtOrNew v v2 n := by
  rcases h with h | h
  · exact .inl (h.trans e)
  · exact .inr fun b hb => Nat.le_trans hm (h b hb)
/-- One grown in place, then a store into the struct's block. -/
theorem Turn.ofGrown {g : Nat} {row : Option Nat} {w w1 : World} (hg : w.grownBy w1 row) : Turn g row w w1 := (Turn.refl g row w).grown hg (.inl rfl)

set_option maxRecDepth 100000 in
set_option maxHeartbeats 2000000 in
theorem done_any (v1 v4 : Value) (s : Ses) (a : Option Nat) (ha : ∀ i, a = some i → i < s.flight.length) (A2 : Option Addr) (c2 : Nat) (A3 : Option Addr) (c3 : Nat) (ok okq : Nat → Prop) (lo g : Nat) (w : World)
    (hb : Blk w g 27 #[.string s.cl, v1, .slice A2 s.queue.length c2, .slice A3 s.flight.length c3, v4, .int .i64 s.nid, .int .i64 s.hd, .int .i64 s.snt])
    (hf : Own 50 kFlt ok lo w (.slice A3 s.flight.length c3) s.flight) (hq : Sl 64 kMsg okq w A2 c2 s.queue) (hqs : ∀ b, okq b → b < w.heap.size → b ≠ g ∧ some b ≠ (Value.slice A3 s.flight.length c3).ownBlock)
    (hlo : lo ≤ w.heap.size) (hg : ∀ b, ok b → b ≠ g) (hfresh : ∀ b, w.heap.size ≤ b → ok b) :
    Calls Try.prog 53 #[.pointer (some ⟨g, 0, none⟩), .int .i64 (placeI a)] w (Post34 v1 v4 (.slice A3 s.flight.length c3) s (doneD s a) ok okq lo g w) := by
  have hgl := hb.lt
  cases a with
  | none =>
    have HB := Aside.mk hb; have HF := Aside.mk hf; have HQ := Aside.mk hq
    clear hb hf hq hqs hlo hg hfresh ha
    simp only [placeI]
    go_enter Try.func53, Try.ntmps53
    go_wp2_with fail
    go_ret
    exact ⟨none, 0, A2, c2, A3, c3, rfl, HB.out, HF.out, HQ.out, Sl.nil _ _ _ _, Turn.refl _ _ _, AtOrNew.refl _ _⟩
  | some i =>
    have hi := ha i rfl
    have hn0 : (0 : Int) ≤ (i : Int) := by omega
    have hn1 : ¬ (i : Int) < 0 := by omega
    have hmx : s.flight.length ≤ 9223372036854775807 := by
      obtain ⟨_, cs, ho, _⟩ := hf
      rcases ho.2 with ⟨_, h⟩ | ⟨_, cap, _, _, _, _, h1, h2, _⟩
      · omega
      · unfold maxLen at h2; omega
    have hn2 : (i : Int) + 1 ≤ 9223372036854775807 := by omega
    have HI := Aside.mk hi
    have HB := Aside.mk hb; have HF := Aside.mk hf; have HQ := Aside.mk hq; have HQS := Aside.mk hqs; have HLO := Aside.mk hlo; have HG := Aside.mk hg; have HFR := Aside.mk hfresh
    obtain ⟨b0c, b0f, _, _⟩ := hb.all
    clear hb hf hq hqs hlo hg hfresh ha hi hmx
    simp only [placeI]
    go_enter Try.func53, Try.ntmps53
    go_wp2_with fail
    refine (delete_any s.flight A3 c3 i lo ok w HF.out HI.out).mono ?_
    rintro e w1 ⟨rfl, hO, hgr⟩
    have hrow : ∀ b, (Value.slice A3 s.flight.length c3).ownBlock = some b → b ≠ g := fun b hb => HG.out b (HF.out.1 b hb)
    have k0 := HB.out.grown hgr (fun e => hrow g e.symm rfl)
    have HO := Aside.mk hO; have HGR := Aside.mk hgr; have K0 := Aside.mk k0; have HROW := Aside.mk hrow
    have hs1 := hgr.size
    clear b0c b0f hO hgr hrow
    obtain ⟨k0c, k0f, k0s, k0h⟩ := k0.all
    clear k0
    go_wp2_with fail
    refine (refill_any v1 v4 (lessS s i) A2 c2 A3 c3 ok (fun b => okq b ∧ b < w.heap.size) lo g _ (K0.out.put _) (HO.out.kp ((Kp.refl _ _).put (fun b hb => HG.out b hb) _)) ?q1 ?q2 ?q3 HG.out ?q4).mono ?_
    case q1 =>
      have h := HQ.out.mono (ok' := fun b => (okq b ∧ b < w.heap.size) ∧ b ≠ g ∧ some b ≠ (Value.slice A3 s.flight.length c3).ownBlock) (fun b hb hlt => ⟨⟨hb, hlt⟩, HQS.out b hb hlt⟩)
      exact (h.kp (((Kp.refl _ _).grown HGR.out (fun b hb => hb.2.2)).put (fun b hb => hb.2.1) _)).mono (fun b hb _ => hb.1)
    case q2 => exact fun b hb hlt => by rw [ownBlock_len A3 _ c3 s.flight.length c3]; exact HQS.out b hb.1 hb.2
    case q3 => have := HLO.out; simp; omega
    case q4 => exact fun b hb => HFR.out b (by simp at hb; omega)
    rintro e w2 ⟨Ap, cp, A2s, c2s, A3s, c3s, rfl, j0, jF, jQ, jP, jT, jA⟩
    have HN : Aside (Post34 v1 v4 (.slice A3 s.flight.length c3) s (doneD s (some i)) ok okq lo g w (.returned (.slice Ap (refillD (lessS s i)).2.length cp)) w2) := ⟨Ap, cp, A2s, c2s, A3s, c3s, rfl, j0, jF, jQ.mono (fun b hb _ => hb.1), jP.mono (fun b hb _ => ⟨by have := hb.1; simp at this; omega, hb.2⟩), ((Turn.ofGrown HGR.out).put _).trans jT (.inl (ownBlock_len _ _ _ _ _)), jA.from (ownBlock_len _ _ _ _ _) (by simp; omega)⟩
    clear j0 jF jQ jP jT jA k0c k0f k0s k0h
    go_wp2_with fail
    go_ret
    exact HN.out
theorem doneD_same (s : Ses) (a : Option Nat) : (doneD s a).1.cl = s.cl ∧ (doneD s a).1.subs = s.subs ∧ (doneD s a).1.ids = s.ids := by
  cases a with
  | none => exact ⟨rfl, rfl, rfl⟩
  | some i => exact refillD_same (lessS s i)
theorem doneD_fl (s : Ses) (a : Option Nat) : (doneD s a).1.flight.length ≤ s.flight.length + 4 := by
  cases a with
  | none => simp [doneD]
  | some i =>
    have h := refillFrom_fl (lessS s i).queue (lessS s i)
    have h2 : (lessS s i).flight.length ≤ s.flight.length := by simp only [lessS]; exact List.length_eraseIdx_le _ _
    show (refillFrom (lessS s i).queue (lessS s i)).1.flight.length ≤ _
    omega

/-- What answered leaves: a session and packets, in memory from lo on. -/
def Post35 (r : Ses × List Pkt) (lo : Nat) (w : World) (e : Ending) (w' : World) : Prop :=
  ∃ vs vp, e = .returned (.tuple #[vs, vp]) ∧ IsSesIn (fun b => lo ≤ b) w' vs r.1 ∧ IsPktsIn (fun b => lo ≤ b) w' vp r.2 ∧ Below lo w w'

set_option maxRecDepth 100000 in
set_option maxHeartbeats 2000000 in
theorem answered_any (s : Ses) (a : Option Nat) (ha : ∀ i, a = some i → i < s.flight.length) (A1 : Option Addr) (c1 : Nat) (A2 : Option Addr) (c2 : Nat) (A3 : Option Addr) (c3 : Nat) (A4 : Option Addr) (c4 : Nat) (lo : Nat) (w : World)
    (h : OwnSes lo w s (.slice A1 s.subs.length c1) (.slice A2 s.queue.length c2) (.slice A3 s.flight.length c3) (.slice A4 s.ids.length c4)) (hlo : lo ≤ w.heap.size)
    (hl1 : s.subs.length * 24 ≤ 140737488355328) (hl2 : s.queue.length * 64 ≤ 140737488355328) (hl3 : (s.flight.length + 4) * 88 ≤ 140737488355328) (hl4 : s.ids.length * 8 ≤ 140737488355328) :
    Calls Try.prog 35 #[.agg (sesCells s A1 c1 A2 c2 A3 c3 A4 c4), .int .i64 (placeI a)] w (Post35 (doneD s a) lo w) := by
  have hW : Below w.heap.size w ((w.alloc (.cells (sesCells s A1 c1 A2 c2 A3 c3 A4 c4) 27)).alloc (.cells zeroSes 27)) := ((Below.refl _ _).alloc (Nat.le_refl _) _).alloc (by simp) _
  have b1 : Blk ((w.alloc (.cells (sesCells s A1 c1 A2 c2 A3 c3 A4 c4) 27)).alloc (.cells zeroSes 27)) w.heap.size 27 (sesCells s A1 c1 A2 c2 A3 c3 A4 c4) := (Blk.new w 27 _).alloc _
  have b2 : Blk ((w.alloc (.cells (sesCells s A1 c1 A2 c2 A3 c3 A4 c4) 27)).alloc (.cells zeroSes 27)) (w.heap.size + 1) 27 zeroSes := Blk.newAt _ (w.heap.size + 1) (by simp) 27 _
  obtain ⟨A2', c2', e2, hS2⟩ := h.queue.reads (bytes := 64) hl2
  injection e2 with e2 _ e2'
  subst e2 e2'
  have HA := Aside.mk ha
  have HW := Aside.mk hW; have B1 := Aside.mk b1; have B2 := Aside.mk b2; have H := Aside.mk h; have HS2 := Aside.mk hS2
  have hv3 := fun g hg => (H.out.flight.ge g hg)
  have hv2 := fun g hg => (H.out.queue.ge g hg)
  have HV3 := Aside.mk hv3; have HV2 := Aside.mk hv2
  clear hW b1 b2 h hS2 hv3 hv2 ha
  simp only [sesCells]
  go_enter Try.func35, Try.ntmps35
  go_wp2_with fail
  refine (done_any (.slice A1 s.subs.length c1) (.slice A4 s.ids.length c4) s a HA.out A2 c2 A3 c3 (fun b => (lo ≤ b ∧ some b ≠ (Value.slice A2 s.queue.length c2).ownBlock) ∧ b ≠ w.heap.size ∧ b ≠ w.heap.size + 1) (fun b => (lo ≤ b ∧ some b ≠ (Value.slice A3 s.flight.length c3).ownBlock) ∧ b < w.heap.size) lo w.heap.size _ B1.out ?q1 ?q2 ?q3 ?q4 ?q5 ?q6).mono ?_
  case q1 => exact (H.out.flight.mono (ok' := fun b => (lo ≤ b ∧ some b ≠ (Value.slice A2 s.queue.length c2).ownBlock) ∧ b ≠ w.heap.size ∧ b ≠ w.heap.size + 1) (fun b hb hlt => ⟨hb, by omega, by omega⟩)).below HW.out
  case q2 => exact (HS2.out.mono (fun b hb hlt => ⟨hb, hlt⟩)).below HW.out
  case q3 => exact fun b hb hlt => ⟨by have := hb.2; omega, hb.1.2⟩
  case q4 => simp; omega
  case q5 => exact fun b hb => hb.2.1
  case q6 => exact fun b hb => by simp at hb; exact ⟨⟨by omega, fun e => by have := (HV2.out b e.symm).2; omega⟩, by omega, by omega⟩
  rintro e w1 ⟨Ap, cp, A2s, c2s, A3s, c3s, rfl, k0, kF, kQ, kP, kT, kA⟩
  obtain ⟨q1, q2, q3⟩ := doneD_same s a
  have q5 := doneD_fl s a
  generalize doneD s a = r at *
  have hz1 := kT.size
  simp at hz1
  have k2 := kT.blk B2.out (by omega) (fun e => by have := (HV3.out _ e.symm).2; omega)
  have K2 := Aside.mk k2
  obtain ⟨k0c, k0f, k0s, k0h⟩ := k0.all
  obtain ⟨k2c, k2f, k2s, k2h⟩ := k2.all
  have KF := Aside.mk kF; have KQ := Aside.mk kQ; have KP := Aside.mk kP; have KT := Aside.mk kT; have KA := Aside.mk kA; have Q := Aside.mk (And.intro q1 (And.intro q2 q3))
  clear k0 kF kQ kP kT kA q1 q2 q3 k2
  go_wp2_with fail
  refine bodyPost_ret (res_ct rfl _ _ (w.heap.size + 1) 27 _ _ rfl (K2.out.put _) Try.underlying27 rfl (by kernel_rfl)) rfl ?_
  obtain ⟨q1, q2, q3⟩ := Q.out
  obtain ⟨A1q, c1q, e1, hS1⟩ := H.out.subs.reads (bytes := 24) hl1
  obtain ⟨A4q, c4q, e4, hS4⟩ := H.out.ids.reads (bytes := 8) hl4
  injection e1 with e1 _ e1'; injection e4 with e4 _ e4'
  subst e1 e1' e4 e4'
  obtain ⟨A3q, c3q, e3, hS3⟩ := KF.out.reads (bytes := 88) (by omega)
  injection e3 with e3 _ e3'
  subst e3 e3'
  have KK0 : ∀ (a : Array Value), Kp (fun b => ((lo ≤ b ∧ some b ≠ (Value.slice A2 s.queue.length c2).ownBlock) ∧ some b ≠ (Value.slice A3 s.flight.length c3).ownBlock) ∧ b < w.heap.size) w (w1.setRow (w.heap.size + 1) a) := fun a =>
    ((((Kp.refl _ _).below HW.out).turn KT.out (fun b hb => ⟨by have := hb.2; omega, hb.1.2⟩)).put (fun b hb => by have := hb.2; omega) _)
  have KK1 : ∀ {P : Nat → Prop} (a : Array Value), (∀ b, P b → b ≠ w.heap.size + 1) → Kp P w1 (w1.setRow (w.heap.size + 1) a) := fun a hP => (Kp.refl _ _).put hP _
  refine ⟨_, _, rfl, ⟨A1, c1, A2s, c2s, A3s, c3s, A4, c4, by rw [← q1, ← q2, ← q3], ?_, ?_, ?_, ?_⟩, ⟨Ap, cp, rfl, ?_⟩, ?_⟩
  · rw [q2]
    exact ((hS1.mono (fun b hb hlt => ⟨hb, hlt⟩)).kp (KK0 _)).mono (fun b hb _ => hb.1.1.1)
  · exact (KQ.out.kp (KK1 _ (fun b hb => by have := hb.2; omega))).mono (fun b hb _ => hb.1.1)
  · exact (hS3.kp (KK1 _ (fun b hb => hb.2.2))).mono (fun b hb _ => hb.1.1)
  · rw [q3]
    exact ((hS4.mono (fun b hb hlt => ⟨hb, hlt⟩)).kp (KK0 _)).mono (fun b hb _ => hb.1.1.1)
  · exact (KP.out.kp (KK1 _ (fun b hb => by have := hb.1; simp at this; omega))).mono (fun b hb _ => by have := hb.1; simp at this; omega)
  · exact below_put ((HW.out.mono hlo).trans (KT.out.toBelow (B := lo) (by simp; omega) hlo (fun b hb => (HV3.out b hb).1))) (by omega) _
end Go.Proofs.Ytmeeldcgmfplnaa
