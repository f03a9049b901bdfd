/-
  Contracts: session.up and session.send.
-/
import Derived.Test.YtmeeldcgmfplnaaW4
import Derived.Deep.RegionLaw
set_option linter.unusedVariables false
set_option linter.unusedSimpArgs false
namespace Go.Proofs.Ytmeeldcgmfplnaa
open Go.RowKit
attribute [local go_sem] setRow_setCell_same setRow_setCell_other setRow_cell_same setRow_cell_other setRow_frozen setRow_shape
attribute [local go_sem ↓] Go.wp_at_zero Go.wp_at_succ

/-- A count, one more. -/
def up (n : Int) : Int := if 1152921504606846976 ≤ n then n else wrap64 (n + 1)

set_option maxHeartbeats 400000 in
theorem up_any (n : Int) (w : World) : Calls Try.prog 51 #[.int .i64 n] w (fun e w' => e = .returned (.int .i64 (up n)) ∧ w = w') := by
  by_cases h : 1152921504606846976 ≤ n
  · have hu : up n = n := by unfold up; rw [if_pos h]
    rw [hu]
    clear hu
    have hd : decide (n ≥ 1152921504606846976) = true := decide_eq_true h
    clear h
    go_enter Try.func51, Try.ntmps51
    go_wp2
    go_ret
    exact ⟨rfl, rfl⟩
  · have hu : up n = wrap64 (n + 1) := by unfold up; rw [if_neg h]
    rw [hu]
    clear hu
    have hd : decide (n ≥ 1152921504606846976) = false := decide_eq_false h
    clear h
    go_enter Try.func51, Try.ntmps51
    go_wp2
    go_ret
    exact ⟨rfl, rfl⟩

abbrev zeroPkt : Array Value := #[.int .i64 0, .int .i64 0, .bool false, .string ⟨#[]⟩, .slice none 0 0, .int .i64 0, .bool false, .int .i64 0, .string ⟨#[]⟩, .bool false, .int .i64 0, .bool false, .bool false, .int .i64 0, .slice none 0 0, .slice none 0 0]

/-- The flight of a message that is sent. -/
def fly (m : Msg) (id ord : Int) : Flt := ⟨id, 1, ord, { m with u := 0 }⟩

/-- What send leaves: the packet, the flight, the session's block. -/
def Post27 (cl : ByteArray) (v1 v2 v3 v4 : Value) (fs : List Flt) (nid hd snt : Int) (m : Msg) (ok : Nat → Prop) (lo g : Nat) (w : World) (e : Ending) (w' : World) : Prop :=
  ∃ A c A3 c3, e = .returned (.tuple #[.agg (pktCells (pub m (nxt fs nid) false) A c).toArray, .bool true]) ∧
    Blk w' g 27 #[.string cl, v1, v2, .slice A3 (fs.length + 1) c3, v4, .int .i64 (nxt fs nid), .int .i64 hd, .int .i64 (up snt)] ∧
    Own 50 kFlt ok lo w' (.slice A3 (fs.length + 1) c3) (fs ++ [fly m (nxt fs nid) snt]) ∧ Sl 1 kU8 (fun b => w.heap.size ≤ b ∧ some b ≠ (Value.slice A3 (fs.length + 1) c3).ownBlock) w' A c m.p ∧
    Turn g v3.ownBlock w w' ∧ AtOrNew v3 (.slice A3 (fs.length + 1) c3) w.heap.size

/-- Behind the append. -/
structure R27 (cl : ByteArray) (v1 v2 v3 v4 : Value) (fs : List Flt) (nid hd snt : Int) (m : Msg) (ok : Nat → Prop) (lo g : Nat) (w : World) (A : Option Addr) (c : Nat) (A3 : Option Addr) (c3 : Nat) (wx : World) : Prop where
  b1 : Blk wx g 27 #[.string cl, v1, v2, .slice A3 (fs.length + 1) c3, v4, .int .i64 nid, .int .i64 hd, .int .i64 snt]
  b2 : Blk wx w.heap.size 30 (msgCells { m with u := 0 } A c).toArray
  b3 : Blk wx (w.heap.size + 1) 43 zeroPkt
  own : Own 50 kFlt (fun b => ok b ∧ (b < w.heap.size ∨ w.heap.size + 2 ≤ b)) lo wx (.slice A3 (fs.length + 1) c3) (fs ++ [fly m (nxt fs nid) snt])
  pay : Sl 1 kU8 (fun b => w.heap.size + 2 ≤ b) wx A c m.p
  turn : Turn g v3.ownBlock w wx
  atn : AtOrNew v3 (.slice A3 (fs.length + 1) c3) (w.heap.size + 2)

theorem R27.mk' {cl : ByteArray} {v1 v2 v4 : Value} {A' : Option Addr} {c' : Nat} {fs : List Flt} {nid hd snt id : Int} {m : Msg} {ok : Nat → Prop} {lo g : Nat} {w w2 w' : World} {Ap : Option Addr} {cp : Nat} {A3 : Option Addr} {c3 : Nat} (hq : nxt fs nid = id)
    (hO : Own 50 kFlt (fun b => ok b ∧ (b < w.heap.size ∨ w.heap.size + 2 ≤ b)) lo w' (.slice A3 (fs.length + 1) c3) (fs ++ [fly m id snt]))
    (hgr : (((w2.setRow w.heap.size (msgCells { m with u := 0 } Ap cp).toArray).alloc (.cells (fltCells (fly m id snt) Ap cp).toArray 50)).drew).grownBy w' (Value.slice A' fs.length c').ownBlock)
    (hat : (Value.slice A3 (fs.length + 1) c3).ownBlock = (Value.slice A' fs.length c').ownBlock ∨ (Value.slice A3 (fs.length + 1) c3).ownBlock = some (w2.heap.size + 1))
    (hF : Own 50 kFlt ok lo w (.slice A' fs.length c') fs) (hg : ∀ b, ok b → b ≠ g) (hgl : g < w.heap.size)
    (e0 : Blk w2 g 27 #[.string cl, v1, v2, .slice A' fs.length c', v4, .int .i64 nid, .int .i64 hd, .int .i64 snt])
    (e1 : ∃ cs, Blk w2 w.heap.size 30 cs) (e2 : Blk w2 (w.heap.size + 1) 43 zeroPkt)
    (hP : Sl 1 kU8 (fun b => w.heap.size + 2 ≤ b) (w2.setRow w.heap.size (msgCells { m with u := 0 } Ap cp).toArray) Ap cp m.p) (hB : Below w.heap.size w w2) (hs : w.heap.size + 2 ≤ w2.heap.size) :
    R27 cl v1 v2 (.slice A' fs.length c') v4 fs nid hd snt m ok lo g w Ap cp A3 c3 (w'.setRow g #[.string cl, v1, v2, .slice A3 (fs.length + 1) c3, v4, .int .i64 nid, .int .i64 hd, .int .i64 snt]) := by
  subst hq
  obtain ⟨cs1, e1⟩ := e1
  have hrow : ∀ k, (Value.slice A' fs.length c').ownBlock = some k → lo ≤ k ∧ k < w.heap.size := fun k hk => hF.ge k hk
  have hne : ∀ b, w.heap.size ≤ b → some b ≠ (Value.slice A' fs.length c').ownBlock := fun b hb e => by have := (hrow b e.symm).2; omega
  have hgr0 : some g ≠ (Value.slice A' fs.length c').ownBlock := fun e => hg g (hF.1 g e.symm) rfl
  have f0 := (((e0.other (by omega) (msgCells { m with u := 0 } Ap cp).toArray).alloc (.cells (fltCells (fly m (nxt fs nid) snt) Ap cp).toArray 50)).drew).grown hgr hgr0
  have f1 := (((e1.put (msgCells { m with u := 0 } Ap cp).toArray).alloc (.cells (fltCells (fly m (nxt fs nid) snt) Ap cp).toArray 50)).drew).grown hgr (hne _ (Nat.le_refl _))
  have f2 := (((e2.other (by omega) (msgCells { m with u := 0 } Ap cp).toArray).alloc (.cells (fltCells (fly m (nxt fs nid) snt) Ap cp).toArray 50)).drew).grown hgr (hne _ (by omega))
  have hsz : w2.heap.size + 1 ≤ w'.heap.size := by have := hgr.size; simp at this; exact this
  refine ⟨f0.put _, f1.other (by omega) _, f2.other (by omega) _, hO.kp ((Kp.refl _ _).put (fun b hb => hg b hb.1) _), ?_, ?_, ?_⟩
  · have h1 := hP.kp (((Kp.refl _ _).alloc (.cells (fltCells (fly m (nxt fs nid) snt) Ap cp).toArray 50)).drew)
    exact (h1.kp ((Kp.refl _ _).grown hgr (fun b hb => hne b (by omega)))).kp ((Kp.refl _ _).put (fun b hb => by omega) _)
  · have h1 : Turn g (Value.slice A' fs.length c').ownBlock w w2 := (Turn.refl _ _ _).below hB
    exact ((((h1.putNew (Nat.le_refl _) _).alloc _).drew).grown hgr (.inl rfl)).put _
  · rcases hat with h | h
    · exact .inl h
    · exact .inr fun b hb => by rw [h] at hb; injection hb with hb; omega

set_option maxRecDepth 100000 in
set_option maxHeartbeats 1000000 in
theorem send_any (cl : ByteArray) (v1 v2 v4 : Value) (A3 : Option Addr) (c3 : Nat) (fs : List Flt) (nid hd snt : Int) (m : Msg) (A : Option Addr) (c : Nat) (okm ok : Nat → Prop) (lo g : Nat) (w : World)
    (hb : Blk w g 27 #[.string cl, v1, v2, .slice A3 fs.length c3, v4, .int .i64 nid, .int .i64 hd, .int .i64 snt]) (hf : Own 50 kFlt ok lo w (.slice A3 fs.length c3) fs)
    (hm : Sl 1 kU8 okm w A c m.p) (hl : fs.length < 4) (hn : nxt fs nid ≠ 0) (hi : In64 (nxt fs nid)) (hlo : lo ≤ w.heap.size) (hg : ∀ b, ok b → b ≠ g) (hfresh : ∀ b, w.heap.size ≤ b → ok b) :
    Calls Try.prog 27 #[.pointer (some ⟨g, 0, none⟩), .agg #[.string m.t, .slice A m.p.length c, .int .i64 m.q, .bool m.r, .int .i64 m.u]] w (Post27 cl v1 v2 (.slice A3 fs.length c3) v4 fs nid hd snt m ok lo g w) := by
  obtain ⟨A', c', hv, hfs⟩ := hf.reads (bytes := 88) (by omega)
  obtain ⟨rfl, rfl⟩ : A' = A3 ∧ c' = c3 := by injection hv with h1 h2 h3; exact ⟨h1.symm, h3.symm⟩
  clear hv
  have hgl := hb.lt
  have hne0 : ¬ g = w.heap.size := by omega
  have hne1 : ¬ g = w.heap.size + 1 := by omega
  have hne2 : ¬ w.heap.size = g := by omega
  have hne3 : ¬ w.heap.size + 1 = g := by omega
  have HF := Aside.mk hf; have HFS := Aside.mk hfs; have HM := Aside.mk hm; have HB := Aside.mk hb; have HG := Aside.mk hg; have HFr := Aside.mk hfresh; have HI := Aside.mk hi
  have hz : (nxt fs nid == 0) = false := by simpa using hn
  clear hf hfs hm hb hg hfresh hn hi
  generalize hq : nxt fs nid = id at hz HI ⊢
  have HQ := Aside.mk hq
  clear hq
  go_enter Try.func27, Try.ntmps27
  go_wp2_with fail
  refine (nextId_any fs nid (.string cl) v1 v2 v4 (.int .i64 hd) (.int .i64 snt) A' c' _ g _ ((HB.out.alloc _).alloc _) (HFS.out.below (((Below.refl _ _).alloc (Nat.le_refl _) _).alloc (by simp) _))).mono ?_
  rintro e w1 ⟨rfl, hb1⟩
  rw [HQ.out]
  have d1 := ((Blk.new w 30 _).alloc _).below hb1 (by simp <;> omega)
  have d2 := (Blk.newAt _ (w.heap.size + 1) (by simp) 43 _).below hb1 (by simp <;> omega)
  have d0 := ((HB.out.alloc _).alloc _).below hb1 (by simp; omega)
  have hs1 : w.heap.size + 2 ≤ w1.heap.size := by have := hb1.size; simp at this; omega
  have HB1 := Aside.mk (show Below w.heap.size w w1 from (((Below.refl _ _).alloc (Nat.le_refl _) _).alloc (by simp) _).trans (hb1.mono (by simp; omega)))
  have HM1 := Aside.mk (HM.out.below HB1.out)
  have D0 := Aside.mk d0; have D1 := Aside.mk d1; have D2 := Aside.mk d2
  obtain ⟨d0c, d0f, d0s, d0h⟩ := d0.all
  obtain ⟨d1c, d1f, d1s, d1h⟩ := d1.all
  clear hb1 d0 d1 d2
  go_wp2_with fail
  refine (ownMessage_any m A c _ _ HM1.out).mono ?_
  clear d0c d0f d0s d0h d1c d1f d1s d1h
  rintro e w2 ⟨Ap, cp, rfl, hP, hb2⟩
  have d0 := D0.out.belowAll hb2
  have d1 := D1.out.belowAll hb2
  have d2 := D2.out.belowAll hb2
  have hs2 : w.heap.size + 2 ≤ w2.heap.size := by have := hb2.size; omega
  have HB2 := Aside.mk (below_all HB1.out HB1.out.size hb2)
  have HP := Aside.mk (hP.mono (ok' := fun b => w.heap.size + 2 ≤ b) (fun b hb _ => by omega))
  have E0 := Aside.mk d0; have E1 := Aside.mk d1; have E2 := Aside.mk d2
  obtain ⟨d0c, d0f, d0s, d0h⟩ := d0.all
  obtain ⟨d1c, d1f, d1s, d1h⟩ := d1.all
  clear hP hb2 d0 d1 d2
  go_upto_region 6 with fail
  have HO := Aside.mk (show Own 50 kFlt (fun b => ok b ∧ (b < w.heap.size ∨ w.heap.size + 2 ≤ b)) lo (w2.setRow w.heap.size (msgCells { m with u := 0 } Ap cp).toArray) (.slice A' fs.length c') fs from
    (((HF.out.mono (ok' := fun b => ok b ∧ b < w.heap.size) (fun b hb hlt => ⟨hb, hlt⟩)).below HB2.out).kp ((Kp.refl _ _).put (fun b hb => by omega) _)).mono (fun b hb _ => ⟨hb.1, .inl hb.2⟩))
  have HPW := Aside.mk (show Sl 1 kU8 (fun b => w.heap.size + 2 ≤ b) (w2.setRow w.heap.size (msgCells { m with u := 0 } Ap cp).toArray) Ap cp m.p from HP.out.kp ((Kp.refl _ _).put (fun b hb => by omega) _))
  have HCL := Aside.mk (C_litAt kFlt w2.heap.size (by simp) (fltCells (fly m id snt) Ap cp) 50 (show kFlt.K (fun b => w.heap.size + 2 ≤ b) (w2.setRow w.heap.size (msgCells { m with u := 0 } Ap cp).toArray) (fly m id snt) _ from ⟨Ap, cp, rfl, HPW.out, HI.out⟩))
  have HSep := Aside.mk (show ∀ b, (w.heap.size + 2 ≤ b ∧ b < w2.heap.size ∨ b = w2.heap.size) → (ok b ∧ (b < w.heap.size ∨ w.heap.size + 2 ≤ b)) ∧ some b ≠ (Value.slice A' fs.length c').ownBlock from fun b hb => by
    have hge : w.heap.size + 2 ≤ b := by rcases hb with hb | hb <;> omega
    refine ⟨⟨HFr.out b (by omega), .inr hge⟩, fun e => ?_⟩
    have := (HF.out.ge b e.symm).2
    omega)
  have hlt4 : g < w2.heap.size := by omega
  have hlt5 : w.heap.size < w2.heap.size := by omega
  have hne4 : ¬ g = w2.heap.size := by omega
  have hne5 : ¬ w.heap.size = w2.heap.size := by omega
  have HGr := Aside.mk (show some g ≠ (Value.slice A' fs.length c').ownBlock from fun e => HG.out g (HF.out.1 g e.symm) rfl)
  go_cut [] (fun wx => ∃ A3 c3, R27 cl v1 v2 (.slice A' fs.length c') v4 fs nid hd snt m ok lo g w Ap cp A3 c3 wx)
  case first =>
    go_region_law ((refine step_append_Own (P := Try.prog) _ (by rfl) kFlt (.tmp 19) (.tmp 27) 24 50 (by rfl) zeroFlt 88 Try.underlying24 info50 rfl (by decide) (ok := fun b => ok b ∧ (b < w.heap.size ∨ w.heap.size + 2 ≤ b)) (okp := fun b => w.heap.size + 2 ≤ b ∧ b < w2.heap.size ∨ b = w2.heap.size) (lo := lo) (v := .slice A' fs.length c') (xs := fs) (ys := [fly m id snt]) (by rfl) ?_ (A := some ⟨w2.heap.size, 0, none⟩) (m := 1) (c := 1) (by rfl) ?_ ?_ ?_ ?_ ?_ ?_; exact HO.out.below (((Below.refl _ _).alloc (Nat.le_refl _) _).drew); exact Kn.C_free HCL.out; exact (fun b hb _ => HSep.out b hb); exact (fun b hb => ⟨HFr.out b (by simp at hb; omega), .inr (by simp at hb; omega)⟩); (simp; omega); (simp; omega); intro v' w' hO hgr hat; obtain ⟨A3, c3, hv3, _⟩ := hO.reads (bytes := 88) (by simp; omega); rw [List.length_append, List.length_singleton] at hv3; subst hv3; have f0 := (((E0.out.other hne0 (msgCells { m with u := 0 } Ap cp).toArray).alloc (.cells (fltCells (fly m id snt) Ap cp).toArray 50)).drew).grown hgr HGr.out; obtain ⟨f0c, f0f, f0s, f0h⟩ := f0.all))
    all_goals
      have HR := Aside.mk (R27.mk' HQ.out hO hgr (by simpa using hat) HF.out HG.out hgl E0.out ⟨_, E1.out⟩ E2.out HPW.out HB2.out hs2)
      go_wp2_with fail
      go_meet
      exact ⟨A3, c3, HR.out⟩
  case rest =>
    clear hne4 hne5 hlt4 hlt5 HO HPW HCL HSep HGr E0 E1 E2 HP HB2 hs2 d0c d0f d0s d0h d1c d1f d1s d1h D0 D1 D2 HM1 HB1 hs1 HB HFS
    obtain ⟨A3, c3, hR⟩ := hcut
    obtain ⟨d0c, d0f, d0s, d0h⟩ := hR.b1.all
    obtain ⟨d1c, d1f, d1s, d1h⟩ := hR.b2.all
    have HR := Aside.mk hR
    clear hR
    go_wp2_with fail
    refine (up_any snt _).mono ?_
    rintro e w3 ⟨rfl, rfl⟩
    go_wp2_with fail
    clear d0c d0f d0s d0h d1c d1f d1s d1h
    go_wp2_with fail
    have hs3 : w.heap.size + 2 ≤ wc.heap.size := by have := HR.out.b3.lt; omega
    refine (publish_any { m with u := 0 } Ap cp (fun b => w.heap.size + 2 ≤ b) id false _ (HR.out.pay.kp ((Kp.refl _ _).put (fun b hb => by omega) _))).mono ?_
    rintro e w3 ⟨Aq, cq, rfl, hP, hb3⟩
    have f2 := (HR.out.b3.other (by omega) #[.string cl, v1, v2, .slice A3 (fs.length + 1) c3, v4, .int .i64 id, .int .i64 hd, .int .i64 (up snt)]).belowAll hb3
    have f0 := (HR.out.b1.put #[.string cl, v1, v2, .slice A3 (fs.length + 1) c3, v4, .int .i64 id, .int .i64 hd, .int .i64 (up snt)]).belowAll hb3
    have hP3 := Aside.mk (hP.mono (ok' := fun b => wc.heap.size ≤ b) (fun b hb _ => by simpa using hb))
    have HB3 := Aside.mk hb3; have F0 := Aside.mk f0; have F2 := Aside.mk f2
    have hs4 : wc.heap.size ≤ w3.heap.size := by have := hb3.size; simpa using this
    obtain ⟨f2c, f2f, f2s, f2h⟩ := f2.all
    clear hP hb3 f0 f2
    go_wp2_with fail
    refine bodyPost_ret (res_ct rfl _ _ (w.heap.size + 1) 43 _ _ rfl (F2.out.put _) Try.underlying43 rfl (by kernel_rfl)) rfl ?_
    rw [← HQ.out] at *
    refine ⟨Aq, cq, A3, c3, rfl, F0.out.other (by omega) _, ?_, ?_, ?_, ?_⟩
    · have h1 := (HR.out.own.kp ((Kp.refl _ _).put (fun b hb => HG.out b hb.1) _)).below HB3.out
      exact (h1.kp ((Kp.refl _ _).put (fun b hb => by have := hb.2; omega) _)).mono (fun b hb _ => hb.1)
    · have h1 := fun k hk => (HR.out.own.ge k hk).2
      refine (hP3.out.kp ((Kp.refl _ _).put (fun b hb => by omega) _)).mono (fun b hb _ => ⟨by omega, fun e => ?_⟩)
      have := h1 b e.symm
      omega
    · exact ((HR.out.turn.put _).below HB3.out).putNew (by omega) _
    · rcases HR.out.atn with h | h
      · exact .inl h
      · exact .inr fun b hb => by have := h b hb; omega
end Go.Proofs.Ytmeeldcgmfplnaa
