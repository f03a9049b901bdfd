/-
  Contract of the reference: send.
-/
import Derived.Test.YtmeeldcgmfplnaaW8
set_option linter.unusedVariables false
set_option linter.unusedSimpArgs false
namespace Go.Proofs.Ytmeeldcgmfplnaa
open Go.RowKit
attribute [local go_sem] setRow_setCell_same setRow_setCell_other setRow_cell_same setRow_cell_other setRow_frozen setRow_shape
attribute [local go_sem ↓] Go.wp_at_zero Go.wp_at_succ

theorem Cf_litAt {α : Type} (d : Kn α) {okp : Nat → Prop} {w : World} {p : α} (g : Nat) (hg : g = w.heap.size) (cs : List Value) (e : TypeId) (h : d.K okp w p cs) :
    d.Cf okp (w.alloc (.cells cs.toArray e)) (some ⟨g, 0, none⟩) 1 [p] := by
  subst hg
  refine ⟨rfl, fun _ => ⟨_, cs, rfl, Reps.one ?_ (d.len h), ?_⟩⟩
  · exact d.mono (fun b hb _ => hb.1) (d.move (ok := fun b => okp b ∧ b < w.heap.size) (fun b hb _ => Below.heap_alloc w _ b hb.2) (d.mono (fun b hb hlt => ⟨hb, hlt⟩) h))
  · exact World.news_of_block (cs := cs.toArray) (t := e) (fr := (0, 0)) (heap_alloc_new w _)
theorem Cf_below {α : Type} {d : Kn α} {ok : Nat → Prop} {w w1 : World} {A : Option Addr} {n : Nat} {xs : List α} (h : d.Cf ok w A n xs) (hb : Below w.heap.size w w1) : d.Cf ok w1 A n xs :=
  ⟨h.1, fun hn => by
    obtain ⟨ad, cs, e, hr, hc⟩ := h.2 hn
    refine ⟨ad, cs, e, hr.imp (fun _ _ => d.move (fun b _ hlt => hb.block b hlt)), fun j u hu => ?_⟩
    have h1 := hc j u hu
    have h2 := World.block_lt_of_cell? w _ h1
    exact (World.cell?_of_block (w := w) (hb.block _ h2)).trans h1⟩

/-- What the reference's send leaves. -/
def Post30 (r : Ses × List Pkt) (ok : Nat → Prop) (w : World) (e : Ending) (w' : World) : Prop :=
  ∃ vs vp, e = .returned (.tuple #[vs, vp]) ∧ IsSesIn (fun b => (ok b ∧ b < w.heap.size) ∨ w.heap.size ≤ b) w' vs r.1 ∧ IsPktsIn (fun b => (ok b ∧ b < w.heap.size) ∨ w.heap.size ≤ b) w' vp r.2 ∧ Below w.heap.size w w'

/-- Behind the flight's making. -/
structure R30 (s : Ses) (m : Msg) (Am : Option Addr) (cm : Nat) (id : Int) (w : World) (A1 : Option Addr) (c1 : Nat) (A2 : Option Addr) (c2 : Nat) (A3 : Option Addr) (c3 : Nat) (A4 : Option Addr) (c4 : Nat) (g : Nat) (wx : World) : Prop where
  b0 : Blk wx w.heap.size 27 #[.string s.cl, .slice A1 s.subs.length c1, .slice A2 s.queue.length c2, .slice A3 s.flight.length c3, .slice A4 s.ids.length c4, .int .i64 id, .int .i64 s.hd, .int .i64 s.snt]
  b1 : Blk wx (w.heap.size + 1) 30 (msgCells m Am cm).toArray
  b2 : Blk wx (w.heap.size + 2) 27 zeroSes
  b3 : Blk wx g 50 (fltCells (fly m id s.snt) Am cm).toArray
  gt : w.heap.size + 2 < g
  below : Below w.heap.size w wx
/-- Behind the append. -/
structure R30b (ok : Nat → Prop) (s : Ses) (m : Msg) (Am : Option Addr) (cm : Nat) (id : Int) (w : World) (A1 : Option Addr) (c1 : Nat) (A2 : Option Addr) (c2 : Nat) (A4 : Option Addr) (c4 : Nat) (A3 : Option Addr) (c3 : Nat) (wx : World) : Prop where
  b0 : Blk wx w.heap.size 27 #[.string s.cl, .slice A1 s.subs.length c1, .slice A2 s.queue.length c2, .slice A3 (s.flight.length + 1) c3, .slice A4 s.ids.length c4, .int .i64 id, .int .i64 s.hd, .int .i64 s.snt]
  b1 : Blk wx (w.heap.size + 1) 30 (msgCells m Am cm).toArray
  b2 : Blk wx (w.heap.size + 2) 27 zeroSes
  fl : Sl 88 kFlt (fun b => (ok b ∧ b < w.heap.size) ∨ w.heap.size + 3 ≤ b) wx A3 c3 (s.flight ++ [fly m id s.snt])
  below : Below w.heap.size w wx
/-- Behind the count. -/
structure R30c (ok : Nat → Prop) (s : Ses) (m : Msg) (Am : Option Addr) (cm : Nat) (id : Int) (w : World) (A1 : Option Addr) (c1 : Nat) (A2 : Option Addr) (c2 : Nat) (A4 : Option Addr) (c4 : Nat) (A3 : Option Addr) (c3 : Nat) (wx : World) : Prop where
  b0 : Blk wx w.heap.size 27 #[.string s.cl, .slice A1 s.subs.length c1, .slice A2 s.queue.length c2, .slice A3 (s.flight.length + 1) c3, .slice A4 s.ids.length c4, .int .i64 id, .int .i64 s.hd, .int .i64 (up s.snt)]
  b1 : Blk wx (w.heap.size + 1) 30 (msgCells m Am cm).toArray
  b2 : Blk wx (w.heap.size + 2) 27 zeroSes
  fl : Sl 88 kFlt (fun b => (ok b ∧ b < w.heap.size) ∨ w.heap.size + 3 ≤ b) wx A3 c3 (s.flight ++ [fly m id s.snt])
  below : Below w.heap.size w wx

set_option maxRecDepth 100000 in
set_option maxHeartbeats 2000000 in
theorem refSend_any (s : Ses) (A1 : Option Addr) (c1 : Nat) (A2 : Option Addr) (c2 : Nat) (A3 : Option Addr) (c3 : Nat) (A4 : Option Addr) (c4 : Nat) (m : Msg) (Am : Option Addr) (cm : Nat) (ok : Nat → Prop) (w : World)
    (h : RdSes ok w s A1 c1 A2 c2 A3 c3 A4 c4) (hm : Sl 1 kU8 ok w Am cm m.p) (hf : s.flight.length < 4) :
    Calls Try.prog 30 #[.agg (sesCells s A1 c1 A2 c2 A3 c3 A4 c4), .agg #[.string m.t, .slice Am m.p.length cm, .int .i64 m.q, .bool m.r, .int .i64 m.u]] w (Post30 (sendS s m, [pub m (nxt s.flight s.nid) false]) ok w) := by
  have hl1 := h.subs.2.2.1; have hl2 := h.queue.2.2.1; have hl4 := h.ids.2.2.1
  have H := Aside.mk h; have HM := Aside.mk hm; have HF := Aside.mk hf
  have hz : (nxt s.flight s.nid == 0) = false := by simpa using nxt_ne s.flight s.nid hf
  have HI := Aside.mk (nxt_in64 s.flight s.nid)
  have HN := Aside.mk (nxt_ref s.flight s.nid hf)
  clear h hm hf
  simp only [sesCells, sendS]
  generalize hq : nxt s.flight s.nid = id at hz HI HN ⊢
  have HQ := Aside.mk hq
  clear hq
  go_enter Try.func30, Try.ntmps30
  go_wp2_with fail
  refine (next_any s A1 c1 A2 c2 A3 c3 A4 c4 ok _ ?hS id HN.out).mono ?_
  case hS => exact H.out.below (by repeat (first | exact Below.refl _ _ | refine Below.drew ?_ | (refine Below.alloc ?_ (by simp <;> omega) _)))
  rintro e w1 ⟨rfl, hb1⟩
  have d0 := (((Blk.new w 27 _).alloc _).alloc _).below hb1 (by simp <;> omega)
  have d1 := ((Blk.newAt _ (w.heap.size + 1) (by simp) 30 _).alloc _).below hb1 (by simp <;> omega)
  have d2 := (Blk.newAt _ (w.heap.size + 2) (by simp) 27 _).below hb1 (by simp <;> omega)
  have hB1 : Below w.heap.size w w1 := Below.trans (by repeat (first | exact Below.refl _ _ | refine Below.drew ?_ | (refine Below.alloc ?_ (by simp <;> omega) _))) (hb1.mono (by simp; omega))
  have D0 := Aside.mk d0; have D1 := Aside.mk d1; have D2 := Aside.mk d2; have HB1 := Aside.mk hB1
  have hlt0 := d0.lt; have hlt1 := d1.lt; have hlt2 := d2.lt
  have hne0 : ¬ w.heap.size = w1.heap.size := by omega
  have hne1 : ¬ w.heap.size + 1 = w1.heap.size := by omega
  have hne2 : ¬ w.heap.size + 2 = w1.heap.size := by omega
  obtain ⟨d0c, d0f, d0s, d0h⟩ := d0.all
  obtain ⟨d1c, d1f, d1s, d1h⟩ := d1.all
  clear hb1 d0 d1 d2 hB1
  go_upto_region 6 with fail
  go_cut [] (fun wx => R30 s m Am cm id w A1 c1 A2 c2 A3 c3 A4 c4 w1.heap.size wx)
  case first =>
    go_wp2_with fail
    go_meet
    refine ⟨?_, ?_, ?_, ?_, ?_, ?_⟩
    · exact (D0.out.put _).alloc _
    · exact (D1.out.other (by omega) _).alloc _
    · exact (D2.out.other (by omega) _).alloc _
    · exact Blk.newAt _ _ (by simp) _ _
    · omega
    · exact (below_put HB1.out (Nat.le_refl _) _).alloc (by simp; omega) _
  case rest =>
    clear d0c d0f d0s d0h d1c d1f d1s d1h hlt0 hlt1 hlt2 hne0 hne1 hne2 D0 D1 D2 HB1
    obtain ⟨d0c, d0f, d0s, d0h⟩ := hcut.b0.all
    obtain ⟨d3c, d3f, _, _⟩ := hcut.b3.all
    have HR := Aside.mk hcut
    clear hcut
    generalize hg : w1.heap.size = g at HR d3c d3f ⊢
    clear hg
    go_upto_region 7 with fail
    go_cut [] (fun wx => ∃ A3s c3s, R30b ok s m Am cm id w A1 c1 A2 c2 A4 c4 A3s c3s wx)
    case first =>
      have hlt0 : w.heap.size < wc.heap.size := HR.out.b0.lt
      have hltg : g < wc.heap.size := HR.out.b3.lt
      have hne0 : ¬ w.heap.size = wc.heap.size := by omega
      have hneg : ¬ g = wc.heap.size := by omega
      have hlt0' : w.heap.size < wc.heap.size + 1 := by omega
      have hltg' : g < wc.heap.size + 1 := by omega
      have hs3 := Aside.mk (show w.heap.size + 3 ≤ wc.heap.size from by have := HR.out.b2.lt; omega)
      have HPW := Aside.mk ((HM.out.mono (ok' := fun b => ok b ∧ b < w.heap.size) (fun b hb hlt => ⟨hb, hlt⟩)).below HR.out.below)
      have HFW := Aside.mk ((H.out.flight.mono (ok' := fun b => ok b ∧ b < w.heap.size) (fun b hb hlt => ⟨hb, hlt⟩)))
      clear d0s d0h
      go_region_law
        (first
          | (refine step_append_Own (P := Try.prog) _ (by rfl) kFlt (.const (.slice none 0 0)) (.tmp 23) 24 50 (by rfl) zeroFlt 88 Try.underlying24 info50 rfl (by decide) (ok := fun b => (ok b ∧ b < w.heap.size) ∨ wc.heap.size ≤ b) (okp := fun b => ok b ∧ b < w.heap.size) (lo := wc.heap.size) (v := .slice none 0 0) (xs := []) (ys := s.flight) (by rfl) ?_ (A := A3) (m := s.flight.length) (c := c3) (by rfl) ?_ ?_ ?_ ?_ ?_ ?_; exact Own.nil _ _ _ _ _; (refine Kn.C_free (HFW.out.below ?_).2.2.2; repeat (first | exact HR.out.below | refine Below.drew ?_ | refine Below.alloc ?_ (by first | omega | (simp <;> omega)) _)); exact (fun b hb _ => ⟨.inl hb, (by simp [Value.ownBlock])⟩); exact (fun b hb => .inr (by first | omega | (simp at hb; omega))); (first | omega | (simp <;> omega)); (have := HF.out; simp; omega); intro v1 wv hO1 hg1 hat1; have hbv := Aside.mk (below_of_grown_none hg1); have hsv := Aside.mk hbv.out.size; have e0 : Blk wv w.heap.size 27 #[.string s.cl, .slice A1 s.subs.length c1, .slice A2 s.queue.length c2, .slice A3 s.flight.length c3, .slice A4 s.ids.length c4, .int .i64 id, .int .i64 s.hd, .int .i64 s.snt] := Blk.belowAll (by first | exact HR.out.b0.drew | exact (HR.out.b0.alloc _).drew) hbv.out; have e1 : Blk wv (w.heap.size + 1) 30 (msgCells m Am cm).toArray := Blk.belowAll (by first | exact HR.out.b1.drew | exact (HR.out.b1.alloc _).drew) hbv.out; have e2 : Blk wv (w.heap.size + 2) 27 zeroSes := Blk.belowAll (by first | exact HR.out.b2.drew | exact (HR.out.b2.alloc _).drew) hbv.out; have e3 : Blk wv g 50 (fltCells (fly m id s.snt) Am cm).toArray := Blk.belowAll (by first | exact HR.out.b3.drew | exact (HR.out.b3.alloc _).drew) hbv.out; obtain ⟨e0c, e0f, _, _⟩ := e0.all; obtain ⟨e3c, e3f, _, _⟩ := e3.all; have HV := Aside.mk (show wc.heap.size ≤ wv.heap.size from (by have := hsv.out; simp at this; omega)); have hO1' := Aside.mk hO1; have hE := Aside.mk (And.intro e0 (And.intro e1 e2)); clear hO1 hg1 hat1 e0 e1 e2 e3)
          | (refine step_append_Own (P := Try.prog) _ (by rfl) kFlt (.tmp 24) (.tmp 26) 24 50 (by rfl) zeroFlt 88 Try.underlying24 info50 rfl (by decide) (ok := fun b => (ok b ∧ b < w.heap.size) ∨ wc.heap.size ≤ b) (okp := fun b => ok b ∧ b < w.heap.size) (lo := wc.heap.size) (v := v1) (xs := s.flight) (ys := [fly m id s.snt]) (by rfl) ?_ (A := some ⟨wv.heap.size, 0, none⟩) (m := 1) (c := 1) (by rfl) ?_ ?_ ?_ ?_ ?_ ?_; exact hO1'.out.below ((Below.refl _ _).alloc (Nat.le_refl _) _); exact Cf_litAt kFlt wv.heap.size rfl (fltCells (fly m id s.snt) Am cm) 50 ⟨Am, cm, rfl, HPW.out.below (Below.trans ((Below.refl wc.heap.size wc).drew) hbv.out), HI.out⟩; exact (fun b hb _ => ⟨.inl hb, fun e => (by have := (hO1'.out.ge b e.symm).1; have := hs3.out; omega)⟩); exact (fun b hb => .inr (by simp at hb; have := HV.out; omega)); (have := HV.out; simp; omega); (have := HF.out; simp; omega); intro v2 wv2 hO2 hg2 hat2; obtain ⟨A3s, c3s, hv3, hSl⟩ := hO2.reads (bytes := 88) (by have := HF.out; simp; omega); rw [List.length_append, List.length_singleton] at hv3; subst hv3; have hnv : ∀ b, b < wc.heap.size → some b ≠ v1.ownBlock := (fun b hb e => (by have := (hO1'.out.ge b e.symm).1; omega)); have k0 := (hE.out.1.alloc (.cells (fltCells (fly m id s.snt) Am cm).toArray 50)).grown hg2 (hnv _ HR.out.b0.lt); have k1 := (hE.out.2.1.alloc (.cells (fltCells (fly m id s.snt) Am cm).toArray 50)).grown hg2 (hnv _ HR.out.b1.lt); have k2 := (hE.out.2.2.alloc (.cells (fltCells (fly m id s.snt) Am cm).toArray 50)).grown hg2 (hnv _ HR.out.b2.lt); have kB : Below wc.heap.size wc wv2 := ((Below.trans ((Below.refl wc.heap.size wc).drew) hbv.out).alloc HV.out (.cells (fltCells (fly m id s.snt) Am cm).toArray 50)).grown hg2 (by have := HV.out; simp; omega) (fun b hb => (hO1'.out.ge b hb).1); have hK := Aside.mk (And.intro k0 (And.intro k1 (And.intro k2 (And.intro kB hSl)))); obtain ⟨k0c, k0f, k0s, k0h⟩ := k0.all; clear hO2 hg2 hat2 k0 k1 k2 kB hSl hnv)
          | (refine step_append_Own (P := Try.prog) _ (by rfl) kFlt (.tmp 24) (.tmp 26) 24 50 (by rfl) zeroFlt 88 Try.underlying24 info50 rfl (by decide) (ok := fun b => (ok b ∧ b < w.heap.size) ∨ wc.heap.size ≤ b) (okp := fun b => ok b ∧ b < w.heap.size) (lo := wc.heap.size) (v := v1) (xs := s.flight) (ys := [fly m id s.snt]) (by rfl) ?_ (A := some ⟨wc.heap.size, 0, none⟩) (m := 1) (c := 1) (by rfl) ?_ ?_ ?_ ?_ ?_ ?_; exact hO1'.out; exact Cf_below (Cf_litAt (w := wc) kFlt wc.heap.size rfl (fltCells (fly m id s.snt) Am cm) 50 ⟨Am, cm, rfl, HPW.out, HI.out⟩) (Below.trans (Below.drew (Below.refl _ _)) hbv.out); exact (fun b hb _ => ⟨.inl hb, fun e => (by have := (hO1'.out.ge b e.symm).1; have := hs3.out; omega)⟩); exact (fun b hb => .inr (by have := HV.out; omega)); exact HV.out; (have := HF.out; simp; omega); intro v2 wv2 hO2 hg2 hat2; obtain ⟨A3s, c3s, hv3, hSl⟩ := hO2.reads (bytes := 88) (by have := HF.out; simp; omega); rw [List.length_append, List.length_singleton] at hv3; subst hv3; have hnv : ∀ b, b < wc.heap.size → some b ≠ v1.ownBlock := (fun b hb e => (by have := (hO1'.out.ge b e.symm).1; omega)); have k0 := hE.out.1.grown hg2 (hnv _ HR.out.b0.lt); have k1 := hE.out.2.1.grown hg2 (hnv _ HR.out.b1.lt); have k2 := hE.out.2.2.grown hg2 (hnv _ HR.out.b2.lt); have kB : Below wc.heap.size wc wv2 := (Below.trans ((((Below.refl wc.heap.size wc).alloc (Nat.le_refl _) (.cells (fltCells (fly m id s.snt) Am cm).toArray 50))).drew) (hbv.out.mono (by simp))).grown hg2 HV.out (fun b hb => (hO1'.out.ge b hb).1); have hK := Aside.mk (And.intro k0 (And.intro k1 (And.intro k2 (And.intro kB hSl)))); obtain ⟨k0c, k0f, k0s, k0h⟩ := k0.all; clear hO2 hg2 hat2 k0 k1 k2 kB hSl hnv))
      all_goals
        have HX : Aside (R30b ok s m Am cm id w A1 c1 A2 c2 A4 c4 A3s c3s (wv2.setRow w.heap.size #[.string s.cl, .slice A1 s.subs.length c1, .slice A2 s.queue.length c2, .slice A3s (s.flight.length + 1) c3s, .slice A4 s.ids.length c4, .int .i64 id, .int .i64 s.hd, .int .i64 s.snt])) := ⟨{
          b0 := hK.out.1.put _
          b1 := hK.out.2.1.other (by omega) _
          b2 := hK.out.2.2.1.other (by omega) _
          fl := (hK.out.2.2.2.2.mono (ok' := fun b => (ok b ∧ b < w.heap.size) ∨ w.heap.size + 3 ≤ b) (fun b hb _ => hb.imp (fun h => h) (fun h => by have := hs3.out; omega))).kp ((Kp.refl _ _).put (fun b hb => by omega) _)
          below := below_put (HR.out.below.trans (hK.out.2.2.2.1.mono (by omega))) (Nat.le_refl _) _ }⟩
        go_wp2_with fail
        go_meet
        exact ⟨A3s, c3s, HX.out⟩
    case rest =>
      clear d0c d0f d0s d0h d3c d3f HR
      obtain ⟨A3s, c3s, hR⟩ := hcut
      obtain ⟨d0c, d0f, d0s, d0h⟩ := hR.b0.all
      have HR := Aside.mk hR
      clear hR
      go_upto_if 31 with fail
      go_cut [] (fun wx => R30c ok s m Am cm id w A1 c1 A2 c2 A4 c4 A3s c3s wx)
      case first =>
        by_cases hup : 1152921504606846976 ≤ s.snt
        · have hu := Aside.mk (show up s.snt = s.snt by unfold up; rw [if_pos hup])
          go_wp2_with fail
          go_meet
          exact ⟨by rw [hu.out]; exact HR.out.b0, HR.out.b1, HR.out.b2, HR.out.fl, HR.out.below⟩
        · have hu := Aside.mk (show up s.snt = wrap64 (s.snt + 1) by unfold up; rw [if_neg hup])
          have hup2 : s.snt < 1152921504606846976 := by omega
          clear hup
          go_wp2_with fail
          go_meet
          exact ⟨by rw [hu.out]; exact HR.out.b0.put _, HR.out.b1.other (by omega) _, HR.out.b2.other (by omega) _, HR.out.fl.kp ((Kp.refl _ _).put (fun b hb => by omega) _), below_put HR.out.below (Nat.le_refl _) _⟩
      case rest =>
        clear d0c d0f d0s d0h HR
        obtain ⟨d0c, d0f, _, _⟩ := hcut.b0.all
        obtain ⟨d1c, d1f, _, _⟩ := hcut.b1.all
        obtain ⟨d2c, d2f, d2s, d2h⟩ := hcut.b2.all
        have HR := Aside.mk hcut
        clear hcut
        go_upto_region 10 with fail
        go_region_held3 (fun w' => w'.cell? ⟨w.heap.size, 0, none⟩ = some (.string s.cl) ∧ w'.cell? ⟨w.heap.size, 1, none⟩ = some (.slice A1 s.subs.length c1) ∧ w'.cell? ⟨w.heap.size, 2, none⟩ = some (.slice A2 s.queue.length c2) ∧ w'.cell? ⟨w.heap.size, 3, none⟩ = some (.slice A3s (s.flight.length + 1) c3s) ∧ w'.cell? ⟨w.heap.size, 4, none⟩ = some (.slice A4 s.ids.length c4) ∧ w'.cell? ⟨w.heap.size, 5, none⟩ = some (.int .i64 id) ∧ w'.cell? ⟨w.heap.size, 6, none⟩ = some (.int .i64 s.hd) ∧ w'.cell? ⟨w.heap.size, 7, none⟩ = some (.int .i64 (up s.snt)) ∧ w'.cell? ⟨w.heap.size + 1, 0, none⟩ = some (.string m.t) ∧ w'.cell? ⟨w.heap.size + 1, 1, none⟩ = some (.slice Am m.p.length cm) ∧ w'.cell? ⟨w.heap.size + 1, 2, none⟩ = some (.int .i64 m.q) ∧ w'.cell? ⟨w.heap.size + 1, 3, none⟩ = some (.bool m.r) ∧ w'.cell? ⟨w.heap.size + 1, 4, none⟩ = some (.int .i64 m.u)) (first | go_keep | simp [drew_cell, setRow_cell_other, World.cell?_alloc_some, *])
          (first | (go_at_call 29; refine (told_any m Am cm id false _).mono ?_; rintro e wv ⟨rfl, hb1⟩; have e0 := (HR.out.b0.drew).belowAll hb1; have e1 := (HR.out.b1.drew).belowAll hb1; have e2 := (HR.out.b2.drew).belowAll hb1; obtain ⟨e0c, e0f, e0s, e0h⟩ := e0.all; obtain ⟨e1c, e1f, e1s, e1h⟩ := e1.all; obtain ⟨e2c, e2f, e2s, e2h⟩ := e2.all; have hlt1 : w.heap.size + 2 < wv.heap.size := e2.lt; have hlt2 : w.heap.size + 1 < wv.heap.size := (by omega); have hlt3 : w.heap.size < wv.heap.size := (by omega); have hne1 : ¬ w.heap.size + 2 = wv.heap.size := (by omega); have hne2 : ¬ w.heap.size + 1 = wv.heap.size := (by omega); have hne3 : ¬ w.heap.size = wv.heap.size := (by omega)))
        all_goals
          go_wp2_with fail
          have hbw : Below wc.heap.size wc wv := Below.trans ((Below.refl wc.heap.size wc).drew) hb1
          have hln : (s.flight ++ [fly m id s.snt]).length = s.flight.length + 1 := by simp
          have hsz : w.heap.size + 2 < wc.heap.size := HR.out.b2.lt
          refine bodyPost_ret (res_ct rfl _ _ (w.heap.size + 2) 27 _ _ rfl ((e2.put _).alloc _) Try.underlying27 rfl (by kernel_rfl)) rfl ?_
          refine ⟨_, _, rfl, ⟨A1, c1, A2, c2, A3s, c3s, A4, c4, by simp only [sesCells, hln], ?_⟩, IsPktsIn.lit _ wv.heap.size (by simp) (p := pub m id false) ((((HM.out.mono (ok' := fun b => ok b ∧ b < w.heap.size) (fun b hb hlt => ⟨hb, hlt⟩)).below HR.out.below).below hbw).kp (Kp.put (Kp.refl _ _) (g := w.heap.size + 2) (fun b hb => by have := hb.2; omega) _)) (fun b hb _ => .inl hb) (.inr (by have := hbw.size; omega)), ?_⟩
          · have hmv : Kp (fun b => (ok b ∧ b < w.heap.size) ∨ w.heap.size + 3 ≤ b) wc (wv.setRow (w.heap.size + 2) #[.string s.cl, .slice A1 s.subs.length c1, .slice A2 s.queue.length c2, .slice A3s (s.flight.length + 1) c3s, .slice A4 s.ids.length c4, .int .i64 id, .int .i64 s.hd, .int .i64 (up s.snt)]) := ((Kp.refl _ _).below hbw).put (fun b hb => by omega) _
            have hrd := (H.out.mono (ok' := fun b => (ok b ∧ b < w.heap.size) ∨ w.heap.size + 3 ≤ b) (fun b hb hlt => .inl ⟨hb, hlt⟩)).below HR.out.below
            have hmv2 := hmv.alloc (.cells (pktCells (pub m id false) Am cm).toArray 43)
            exact ⟨(hrd.subs.kp hmv2).mono (fun b hb _ => hb.imp (fun h => h) (fun h => by omega)), (hrd.queue.kp hmv2).mono (fun b hb _ => hb.imp (fun h => h) (fun h => by omega)), (HR.out.fl.kp hmv2).mono (fun b hb _ => hb.imp (fun h => h) (fun h => by omega)), (hrd.ids.kp hmv2).mono (fun b hb _ => hb.imp (fun h => h) (fun h => by omega))⟩
          · exact (below_put (HR.out.below.trans (hbw.mono (by omega))) (g := w.heap.size + 2) (by omega) _).alloc (by simp; omega) _
end Go.Proofs.Ytmeeldcgmfplnaa
