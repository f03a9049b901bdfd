/-
  Contract: session.Answer.
-/
import Derived.Test.YtmeeldcgmfplnaaW22
set_option linter.unusedVariables false
set_option linter.unusedSimpArgs false
namespace Go.Proofs.Ytmeeldcgmfplnaa
open Go.RowKit
attribute [local go_sem] setRow_setCell_same setRow_setCell_other setRow_cell_same setRow_cell_other setRow_frozen setRow_shape
attribute [local go_sem ↓] Go.wp_at_zero Go.wp_at_succ

def gotF (f : Flt) : Flt := { f with st := 2 }
def gotS (s : Ses) (i : Nat) : Ses := { s with flight := s.flight.modify i gotF }
def freeS (s : Ses) (id : Int) : Ses := { s with ids := s.ids.filter (fun x => !(x == id)) }
/-- What Answer makes of a session. -/
def answerD (s : Ses) (kind id : Int) : Ses × List Pkt :=
  if id < 1 ∨ 65535 < id then (s, [])
  else if kind = 4 then doneD s (s.flight.findIdx? (findP id 37))
  else if kind = 5 then ((match s.flight.findIdx? (findP id 38) with | some i => gotS s i | none => s), [bareP 6 id])
  else if kind = 7 then doneD s (s.flight.findIdx? (findP id 39))
  else if kind = 6 then (freeS s id, [bareP 7 id])
  else (s, [])
theorem findI_place (xs : List Flt) (p : Flt → Bool) : findI xs p = placeI (xs.findIdx? p) := by
  unfold findI placeI
  cases xs.findIdx? p <;> rfl
theorem findIdx_lt {α : Type} {xs : List α} {p : α → Bool} {i : Nat} (h : xs.findIdx? p = some i) : i < xs.length := (List.findIdx?_eq_some_iff_getElem.1 h).1

/-- Behind own in Answer. -/
structure R20 (s : Ses) (id : Int) (w wx : World) (A1 : Option Addr) (c1 : Nat) (A2 : Option Addr) (c2 : Nat) (A3 : Option Addr) (c3 : Nat) (A4 : Option Addr) (c4 : Nat) : Prop where
  b1 : Blk wx w.heap.size 27 (sesCells s A1 c1 A2 c2 A3 c3 A4 c4)
  b2 : Blk wx (w.heap.size + 1) 3 #[.int .i64 id]
  b3 : Blk wx (w.heap.size + 2) 27 zeroSes
  own : OwnSes (w.heap.size + 3) wx s (.slice A1 s.subs.length c1) (.slice A2 s.queue.length c2) (.slice A3 s.flight.length c3) (.slice A4 s.ids.length c4)
  sep : SepSes (w.heap.size + 3) wx s (.slice A1 s.subs.length c1) (.slice A2 s.queue.length c2) (.slice A3 s.flight.length c3) (.slice A4 s.ids.length c4)
  below : Below w.heap.size w wx
/-- Behind the change in Answer. -/
structure R20b (s : Ses) (id : Int) (w wx : World) (A1 : Option Addr) (c1 : Nat) (A2 : Option Addr) (c2 : Nat) (A3 : Option Addr) (c3 : Nat) (A4 : Option Addr) (c4 : Nat) : Prop where
  b1 : Blk wx w.heap.size 27 (sesCells s A1 c1 A2 c2 A3 c3 A4 c4)
  b2 : Blk wx (w.heap.size + 1) 3 #[.int .i64 id]
  b3 : Blk wx (w.heap.size + 2) 27 zeroSes
  rd : RdSes (fun b => w.heap.size + 3 ≤ b) wx s A1 c1 A2 c2 A3 c3 A4 c4
  below : Below w.heap.size w wx

/-- A row of one packet, of a kind and an id alone. -/
theorem IsPktsIn.bare (ok : Nat → Prop) (w : World) (g : Nat) (hg : g = w.heap.size) (kind id : Int) (h : ok g) : IsPktsIn ok (w.alloc (.cells (pktCells (bareP kind id) none 0).toArray 43)) (.slice (some ⟨g, 0, none⟩) 1 1) [bareP kind id] :=
  IsPktsIn.lit (okp := fun _ => False) ok g hg (p := bareP kind id) (A := none) (c := 0) (Sl.nil _ _ _ _) (fun b hb _ => hb.elim) h
theorem IsPktsIn.kp {ok : Nat → Prop} {w w1 : World} {v : Value} {l : List Pkt} (h : IsPktsIn ok w v l) (k : Kp ok w w1) : IsPktsIn ok w1 v l := by
  obtain ⟨A, c, e, h⟩ := h
  exact ⟨A, c, e, h.kp k⟩

theorem IsPktsIn.kp' {ok ok' : Nat → Prop} {w w1 : World} {v : Value} {l : List Pkt} (h : IsPktsIn ok w v l) (k : Kp ok w w1) (ho : ∀ b, ok b → ok' b) : IsPktsIn ok' w1 v l := by
  obtain ⟨A, c, e, h⟩ := h
  exact ⟨A, c, e, (h.kp k).mono fun b hb _ => ho b hb⟩

/-- A row of flights of the call's own, that is not empty: a block that is known whole. -/
theorem own_flts {ok : Nat → Prop} {lo : Nat} {w : World} {A : Option Addr} {c : Nat} {xs : List Flt} (h : Own 50 kFlt ok lo w (.slice A xs.length c) xs) (hn : 0 < xs.length) :
    ∃ g cur, A = some ⟨g, 0, none⟩ ∧ lo ≤ g ∧ Blk w g 50 cur ∧ xs.length ≤ c ∧ c ≤ maxLen ∧ cur.size = c * 8 := by
  obtain ⟨h0, cs, ⟨hl, ho⟩, hr⟩ := h
  rcases ho with ⟨hv, hn0⟩ | ⟨g, cap, cur, hv, hg, hh, hnc, hcm, hsz, hpre⟩
  · omega
  · injection hv with h1 _ h3
    subst h1 h3
    exact ⟨g, cur, rfl, hg, hh, hnc, hcm, hsz⟩
theorem grown_put (w : World) (g : Nat) (a : Array Value) : w.grownBy (w.setRow g a) (some g) :=
  ⟨rfl, rfl, rfl, by simp, fun k _ hne => setRow_other w g k a (fun e => hne (by rw [e]))⟩
/-- One cell of a flight is set. -/
theorem own_flts_got {ok : Nat → Prop} {lo : Nat} {w : World} {g c : Nat} {cur : Array Value} {xs : List Flt} (h : Own 50 kFlt ok lo w (.slice (some ⟨g, 0, none⟩) xs.length c) xs) (hb : Blk w g 50 cur) (i : Nat) (hi : i < xs.length) :
    Own 50 kFlt ok lo (w.setRow g (cur.setIfInBounds (i * 8 + 1) (.int .i64 2))) (.slice (some ⟨g, 0, none⟩) xs.length c) (xs.modify i gotF) := by
  obtain ⟨h0, cs, ⟨hl, ho⟩, hr⟩ := h
  rcases ho with ⟨hv, hn0⟩ | ⟨g', cap, cur', hv, hg, hh, hnc, hcm, hsz, hpre⟩
  · cases hv
  injection hv with h1 _ h3
  injection h1 with h1
  injection h1 with h1 _ _
  subst h1 h3
  have hcur : cur = cur' := by
    have h2 : w.heap[g]? = some (.cells cur 50 (0, 0)) := hb
    rw [h2] at hh
    injection hh with hh
    injection hh with hh _ _
  subst hcur
  replace hl : cs.length = xs.length * 8 := hl
  replace hpre : cur.toList.take (xs.length * 8) = cs := hpre
  replace hsz : cur.size = c * 8 := hsz
  have hlen : (xs.modify i gotF).length = xs.length := List.length_modify _ _ _
  have hgr := grown_put w g (cur.setIfInBounds (i * 8 + 1) (.int .i64 2))
  refine ⟨h0, cs.set (i * 8 + 1) (.int .i64 2), ⟨by rw [List.length_set, hlen]; exact hl, .inr ⟨g, c, _, by rw [hlen], hg, hb.put _, by rw [hlen]; exact hnc, hcm, by rw [Array.size_setIfInBounds]; exact hsz, ?_⟩⟩, ?_, fun j p hj => ?_⟩
  · rw [hlen, Array.toList_setIfInBounds, List.take_set, show kFlt.sz = 8 from rfl, hpre]
  · rw [List.length_set, hlen]; exact hl
  · have hjl : j < xs.length := by have := (List.getElem?_eq_some_iff.1 hj).1; omega
    have h1 := hr.2 j _ (List.getElem?_eq_getElem hjl)
    replace h1 : kFlt.K (fun b => ok b ∧ some b ≠ (Value.slice (some ⟨g, 0, none⟩) xs.length c).ownBlock) w xs[j] ((cs.drop (j * 8)).take 8) := h1
    show kFlt.K _ _ p (((cs.set (i * 8 + 1) (.int .i64 2)).drop (j * 8)).take 8)
    have hmv : ∀ {x cc}, kFlt.K (fun b => ok b ∧ some b ≠ (Value.slice (some ⟨g, 0, none⟩) xs.length c).ownBlock) w x cc → kFlt.K (fun b => ok b ∧ some b ≠ (Value.slice (some ⟨g, 0, none⟩) (xs.modify i gotF).length c).ownBlock) (w.setRow g (cur.setIfInBounds (i * 8 + 1) (.int .i64 2))) x cc := fun hx => kFlt.move (fun b hb hlt => hgr.block b hlt hb.2) hx
    rw [List.getElem?_modify, List.getElem?_eq_getElem hjl] at hj
    by_cases he : i = j
    · subst he
      have hj' : gotF xs[i] = p := by simpa using hj
      subst hj'
      obtain ⟨A', c', e, hS, hw⟩ := h1
      have e2 : ((cs.set (i * 8 + 1) (.int .i64 2)).drop (i * 8)).take 8 = fltCells (gotF xs[i]) A' c' := by
        rw [List.drop_set, if_neg (by omega), show i * 8 + 1 - i * 8 = 1 by omega, List.take_set, e]
        rfl
      rw [e2]
      exact hmv ⟨A', c', rfl, hS, hw⟩
    · have hj' : xs[j] = p := by simpa [he] using hj
      subst hj'
      have e2 : ((cs.set (i * 8 + 1) (.int .i64 2)).drop (j * 8)).take 8 = (cs.drop (j * 8)).take 8 := by
        rcases Nat.lt_or_ge (i * 8 + 1) (j * 8) with h2 | h2
        · rw [List.drop_set_of_lt h2]
        · rw [List.drop_set, if_neg (by omega), List.take_set_of_le (by omega)]
      rw [e2]
      exact hmv h1

set_option maxRecDepth 100000 in
set_option maxHeartbeats 4000000 in
theorem answer_low (s : Ses) (A1 : Option Addr) (c1 : Nat) (A2 : Option Addr) (c2 : Nat) (A3 : Option Addr) (c3 : Nat) (A4 : Option Addr) (c4 : Nat) (kind : Int) (id : Int) (ok : Nat → Prop) (w : World)
    (h : RdSes ok w s A1 c1 A2 c2 A3 c3 A4 c4) (hl5 : s.flight.length ≤ 1000) (hi : id < 1) :
    Calls Try.prog 20 #[.agg (sesCells s A1 c1 A2 c2 A3 c3 A4 c4), .int .i64 kind, .int .i64 id] w (Post18 ((s, [])) w) := by
  have hl1 := h.subs.2.2.1; have hl2 := h.queue.2.2.1; have hl3 := h.flight.2.2.1; have hl4 := h.ids.2.2.1
  have H := Aside.mk h
  clear h
  simp only [sesCells]
  go_enter Try.func20, Try.ntmps20
  go_upto_region 1 with fail
  go_cut [] (fun wx => ∃ A1' c1' A2' c2' A3' c3' A4' c4', R20 s id w wx A1' c1' A2' c2' A3' c3' A4' c4')
  case first =>
    go_wp2_with fail
    refine (own_sep s A1 c1 A2 c2 A3 c3 A4 c4 ok _ ?hS).mono ?_
    case hS => exact H.out.below (by repeat (first | exact Below.refl _ _ | refine Below.drew ?_ | (refine Below.alloc ?_ (by simp <;> omega) _)))
    rintro e w1 ⟨A1', c1', A2', c2', A3', c3', A4', c4', rfl, hO, hSp, hb1⟩
    have d0 := (((Blk.new w 27 (sesCells s A1 c1 A2 c2 A3 c3 A4 c4)).alloc (.cells #[.int .i64 id] 3)).alloc (.cells zeroSes 27)).below hb1 (by simp <;> omega)
    have d1 := ((Blk.newAt (w.alloc (.cells (sesCells s A1 c1 A2 c2 A3 c3 A4 c4) 27)) (w.heap.size + 1) (by simp) 3 #[.int .i64 id]).alloc (.cells zeroSes 27)).below hb1 (by simp <;> omega)
    have d2 := (Blk.newAt ((w.alloc (.cells (sesCells s A1 c1 A2 c2 A3 c3 A4 c4) 27)).alloc (.cells #[.int .i64 id] 3)) (w.heap.size + 2) (by simp) 27 zeroSes).below hb1 (by simp <;> omega)
    have hB1 : Below w.heap.size w w1 := Below.trans (by repeat (first | exact Below.refl _ _ | refine Below.drew ?_ | (refine Below.alloc ?_ (by simp <;> omega) _))) (hb1.mono (by simp; omega))
    have HR := Aside.mk (show R20 s id w (w1.setRow w.heap.size (sesCells s A1' c1' A2' c2' A3' c3' A4' c4')) A1' c1' A2' c2' A3' c3' A4' c4' from
      ⟨d0.put _, d1.other (by omega) _, d2.other (by omega) _, hO.kp ((Kp.refl _ _).put (fun b hb => by simp at hb; omega) _) (by simp), hSp.kp ((Kp.refl _ _).put (fun b hb => by simp at hb; omega) _) (by simp), below_put hB1 (Nat.le_refl _) _⟩)
    obtain ⟨d0c, d0f, d0s, d0h⟩ := d0.all
    clear hO hSp hb1 d0 d1 d2 hB1
    go_wp2_with fail
    go_meet
    exact ⟨A1', c1', A2', c2', A3', c3', A4', c4', HR.out⟩
  case rest =>
    obtain ⟨A1', c1', A2', c2', A3', c3', A4', c4', hR⟩ := hcut
    obtain ⟨d0c, d0f, d0s, d0h⟩ := hR.b1.all
    obtain ⟨d1c, d1f, d1s, d1h⟩ := hR.b2.all
    obtain ⟨d2c, d2f, d2s, d2h⟩ := hR.b3.all
    have hsz : w.heap.size + 3 ≤ wc.heap.size := by have := hR.b3.lt; omega
    have HR := Aside.mk hR
    have HRD := Aside.mk (hR.own.rd hl1 hl2 hl3 hl4)
    clear hR
    go_wp2_with fail
    refine bodyPost_ret (res_ct rfl _ _ (w.heap.size + 2) 27 (sesCells s A1' c1' A2' c2' A3' c3' A4' c4') _ rfl (HR.out.b3.put _) Try.underlying27 rfl (by kernel_rfl)) rfl ?_
    refine ⟨_, _, rfl, ⟨A1', c1', A2', c2', A3', c3', A4', c4', rfl, ?_⟩, ⟨none, 0, rfl, Sl.nil _ _ _ _⟩, ?_⟩
    · exact (HRD.out.move (Kp.put (Kp.refl _ _) (fun b hb => by omega) _).2).mono (fun b hb _ => by omega)
    · exact below_put HR.out.below (by omega) _

set_option maxRecDepth 100000 in
set_option maxHeartbeats 4000000 in
theorem answer_high (s : Ses) (A1 : Option Addr) (c1 : Nat) (A2 : Option Addr) (c2 : Nat) (A3 : Option Addr) (c3 : Nat) (A4 : Option Addr) (c4 : Nat) (kind : Int) (id : Int) (ok : Nat → Prop) (w : World)
    (h : RdSes ok w s A1 c1 A2 c2 A3 c3 A4 c4) (hl5 : s.flight.length ≤ 1000) (hi1 : 1 ≤ id) (hi : 65535 < id) :
    Calls Try.prog 20 #[.agg (sesCells s A1 c1 A2 c2 A3 c3 A4 c4), .int .i64 kind, .int .i64 id] w (Post18 ((s, [])) w) := by
  have hl1 := h.subs.2.2.1; have hl2 := h.queue.2.2.1; have hl3 := h.flight.2.2.1; have hl4 := h.ids.2.2.1
  have H := Aside.mk h
  clear h
  simp only [sesCells]
  go_enter Try.func20, Try.ntmps20
  go_upto_region 1 with fail
  go_cut [] (fun wx => ∃ A1' c1' A2' c2' A3' c3' A4' c4', R20 s id w wx A1' c1' A2' c2' A3' c3' A4' c4')
  case first =>
    go_wp2_with fail
    refine (own_sep s A1 c1 A2 c2 A3 c3 A4 c4 ok _ ?hS).mono ?_
    case hS => exact H.out.below (by repeat (first | exact Below.refl _ _ | refine Below.drew ?_ | (refine Below.alloc ?_ (by simp <;> omega) _)))
    rintro e w1 ⟨A1', c1', A2', c2', A3', c3', A4', c4', rfl, hO, hSp, hb1⟩
    have d0 := (((Blk.new w 27 (sesCells s A1 c1 A2 c2 A3 c3 A4 c4)).alloc (.cells #[.int .i64 id] 3)).alloc (.cells zeroSes 27)).below hb1 (by simp <;> omega)
    have d1 := ((Blk.newAt (w.alloc (.cells (sesCells s A1 c1 A2 c2 A3 c3 A4 c4) 27)) (w.heap.size + 1) (by simp) 3 #[.int .i64 id]).alloc (.cells zeroSes 27)).below hb1 (by simp <;> omega)
    have d2 := (Blk.newAt ((w.alloc (.cells (sesCells s A1 c1 A2 c2 A3 c3 A4 c4) 27)).alloc (.cells #[.int .i64 id] 3)) (w.heap.size + 2) (by simp) 27 zeroSes).below hb1 (by simp <;> omega)
    have hB1 : Below w.heap.size w w1 := Below.trans (by repeat (first | exact Below.refl _ _ | refine Below.drew ?_ | (refine Below.alloc ?_ (by simp <;> omega) _))) (hb1.mono (by simp; omega))
    have HR := Aside.mk (show R20 s id w (w1.setRow w.heap.size (sesCells s A1' c1' A2' c2' A3' c3' A4' c4')) A1' c1' A2' c2' A3' c3' A4' c4' from
      ⟨d0.put _, d1.other (by omega) _, d2.other (by omega) _, hO.kp ((Kp.refl _ _).put (fun b hb => by simp at hb; omega) _) (by simp), hSp.kp ((Kp.refl _ _).put (fun b hb => by simp at hb; omega) _) (by simp), below_put hB1 (Nat.le_refl _) _⟩)
    obtain ⟨d0c, d0f, d0s, d0h⟩ := d0.all
    clear hO hSp hb1 d0 d1 d2 hB1
    go_wp2_with fail
    go_meet
    exact ⟨A1', c1', A2', c2', A3', c3', A4', c4', HR.out⟩
  case rest =>
    obtain ⟨A1', c1', A2', c2', A3', c3', A4', c4', hR⟩ := hcut
    obtain ⟨d0c, d0f, d0s, d0h⟩ := hR.b1.all
    obtain ⟨d1c, d1f, d1s, d1h⟩ := hR.b2.all
    obtain ⟨d2c, d2f, d2s, d2h⟩ := hR.b3.all
    have hsz : w.heap.size + 3 ≤ wc.heap.size := by have := hR.b3.lt; omega
    have HR := Aside.mk hR
    have HRD := Aside.mk (hR.own.rd hl1 hl2 hl3 hl4)
    clear hR
    go_wp2_with fail
    refine bodyPost_ret (res_ct rfl _ _ (w.heap.size + 2) 27 (sesCells s A1' c1' A2' c2' A3' c3' A4' c4') _ rfl (HR.out.b3.put _) Try.underlying27 rfl (by kernel_rfl)) rfl ?_
    refine ⟨_, _, rfl, ⟨A1', c1', A2', c2', A3', c3', A4', c4', rfl, ?_⟩, ⟨none, 0, rfl, Sl.nil _ _ _ _⟩, ?_⟩
    · exact (HRD.out.move (Kp.put (Kp.refl _ _) (fun b hb => by omega) _).2).mono (fun b hb _ => by omega)
    · exact below_put HR.out.below (by omega) _

set_option maxRecDepth 100000 in
set_option maxHeartbeats 4000000 in
theorem answer_other (s : Ses) (A1 : Option Addr) (c1 : Nat) (A2 : Option Addr) (c2 : Nat) (A3 : Option Addr) (c3 : Nat) (A4 : Option Addr) (c4 : Nat) (kind : Int) (id : Int) (ok : Nat → Prop) (w : World)
    (h : RdSes ok w s A1 c1 A2 c2 A3 c3 A4 c4) (hl5 : s.flight.length ≤ 1000) (hi1 : 1 ≤ id) (hi2 : id ≤ 65535) (h4 : (kind == 4) = false) (h5 : (kind == 5) = false) (h6 : (kind == 6) = false) (h7 : (kind == 7) = false) :
    Calls Try.prog 20 #[.agg (sesCells s A1 c1 A2 c2 A3 c3 A4 c4), .int .i64 kind, .int .i64 id] w (Post18 ((s, [])) w) := by
  have hl1 := h.subs.2.2.1; have hl2 := h.queue.2.2.1; have hl3 := h.flight.2.2.1; have hl4 := h.ids.2.2.1
  have H := Aside.mk h
  clear h
  simp only [sesCells]
  go_enter Try.func20, Try.ntmps20
  go_upto_region 1 with fail
  go_cut [] (fun wx => ∃ A1' c1' A2' c2' A3' c3' A4' c4', R20 s id w wx A1' c1' A2' c2' A3' c3' A4' c4')
  case first =>
    go_wp2_with fail
    refine (own_sep s A1 c1 A2 c2 A3 c3 A4 c4 ok _ ?hS).mono ?_
    case hS => exact H.out.below (by repeat (first | exact Below.refl _ _ | refine Below.drew ?_ | (refine Below.alloc ?_ (by simp <;> omega) _)))
    rintro e w1 ⟨A1', c1', A2', c2', A3', c3', A4', c4', rfl, hO, hSp, hb1⟩
    have d0 := (((Blk.new w 27 (sesCells s A1 c1 A2 c2 A3 c3 A4 c4)).alloc (.cells #[.int .i64 id] 3)).alloc (.cells zeroSes 27)).below hb1 (by simp <;> omega)
    have d1 := ((Blk.newAt (w.alloc (.cells (sesCells s A1 c1 A2 c2 A3 c3 A4 c4) 27)) (w.heap.size + 1) (by simp) 3 #[.int .i64 id]).alloc (.cells zeroSes 27)).below hb1 (by simp <;> omega)
    have d2 := (Blk.newAt ((w.alloc (.cells (sesCells s A1 c1 A2 c2 A3 c3 A4 c4) 27)).alloc (.cells #[.int .i64 id] 3)) (w.heap.size + 2) (by simp) 27 zeroSes).below hb1 (by simp <;> omega)
    have hB1 : Below w.heap.size w w1 := Below.trans (by repeat (first | exact Below.refl _ _ | refine Below.drew ?_ | (refine Below.alloc ?_ (by simp <;> omega) _))) (hb1.mono (by simp; omega))
    have HR := Aside.mk (show R20 s id w (w1.setRow w.heap.size (sesCells s A1' c1' A2' c2' A3' c3' A4' c4')) A1' c1' A2' c2' A3' c3' A4' c4' from
      ⟨d0.put _, d1.other (by omega) _, d2.other (by omega) _, hO.kp ((Kp.refl _ _).put (fun b hb => by simp at hb; omega) _) (by simp), hSp.kp ((Kp.refl _ _).put (fun b hb => by simp at hb; omega) _) (by simp), below_put hB1 (Nat.le_refl _) _⟩)
    obtain ⟨d0c, d0f, d0s, d0h⟩ := d0.all
    clear hO hSp hb1 d0 d1 d2 hB1
    go_wp2_with fail
    go_meet
    exact ⟨A1', c1', A2', c2', A3', c3', A4', c4', HR.out⟩
  case rest =>
    obtain ⟨A1', c1', A2', c2', A3', c3', A4', c4', hR⟩ := hcut
    obtain ⟨d0c, d0f, d0s, d0h⟩ := hR.b1.all
    obtain ⟨d1c, d1f, d1s, d1h⟩ := hR.b2.all
    obtain ⟨d2c, d2f, d2s, d2h⟩ := hR.b3.all
    have hsz : w.heap.size + 3 ≤ wc.heap.size := by have := hR.b3.lt; omega
    have HR := Aside.mk hR
    have HRD := Aside.mk (hR.own.rd hl1 hl2 hl3 hl4)
    clear hR
    go_wp2_with fail
    refine bodyPost_ret (res_ct rfl _ _ (w.heap.size + 2) 27 (sesCells s A1' c1' A2' c2' A3' c3' A4' c4') _ rfl (HR.out.b3.put _) Try.underlying27 rfl (by kernel_rfl)) rfl ?_
    refine ⟨_, _, rfl, ⟨A1', c1', A2', c2', A3', c3', A4', c4', rfl, ?_⟩, ⟨none, 0, rfl, Sl.nil _ _ _ _⟩, ?_⟩
    · exact (HRD.out.move (Kp.put (Kp.refl _ _) (fun b hb => by omega) _).2).mono (fun b hb _ => by omega)
    · exact below_put HR.out.below (by omega) _

set_option maxRecDepth 100000 in
set_option maxHeartbeats 4000000 in
theorem answer_ack (s : Ses) (A1 : Option Addr) (c1 : Nat) (A2 : Option Addr) (c2 : Nat) (A3 : Option Addr) (c3 : Nat) (A4 : Option Addr) (c4 : Nat) (id : Int) (ok : Nat → Prop) (w : World)
    (h : RdSes ok w s A1 c1 A2 c2 A3 c3 A4 c4) (hl5 : s.flight.length ≤ 1000) (hi1 : 1 ≤ id) (hi2 : id ≤ 65535) :
    Calls Try.prog 20 #[.agg (sesCells s A1 c1 A2 c2 A3 c3 A4 c4), .int .i64 4, .int .i64 id] w (Post18 (doneD s (s.flight.findIdx? (findP id 37))) w) := by
  have hl1 := h.subs.2.2.1; have hl2 := h.queue.2.2.1; have hl3 := h.flight.2.2.1; have hl4 := h.ids.2.2.1
  have H := Aside.mk h
  clear h
  simp only [sesCells]
  go_enter Try.func20, Try.ntmps20
  go_upto_region 1 with fail
  go_cut [] (fun wx => ∃ A1' c1' A2' c2' A3' c3' A4' c4', R20 s id w wx A1' c1' A2' c2' A3' c3' A4' c4')
  case first =>
    go_wp2_with fail
    refine (own_sep s A1 c1 A2 c2 A3 c3 A4 c4 ok _ ?hS).mono ?_
    case hS => exact H.out.below (by repeat (first | exact Below.refl _ _ | refine Below.drew ?_ | (refine Below.alloc ?_ (by simp <;> omega) _)))
    rintro e w1 ⟨A1', c1', A2', c2', A3', c3', A4', c4', rfl, hO, hSp, hb1⟩
    have d0 := (((Blk.new w 27 (sesCells s A1 c1 A2 c2 A3 c3 A4 c4)).alloc (.cells #[.int .i64 id] 3)).alloc (.cells zeroSes 27)).below hb1 (by simp <;> omega)
    have d1 := ((Blk.newAt (w.alloc (.cells (sesCells s A1 c1 A2 c2 A3 c3 A4 c4) 27)) (w.heap.size + 1) (by simp) 3 #[.int .i64 id]).alloc (.cells zeroSes 27)).below hb1 (by simp <;> omega)
    have d2 := (Blk.newAt ((w.alloc (.cells (sesCells s A1 c1 A2 c2 A3 c3 A4 c4) 27)).alloc (.cells #[.int .i64 id] 3)) (w.heap.size + 2) (by simp) 27 zeroSes).below hb1 (by simp <;> omega)
    have hB1 : Below w.heap.size w w1 := Below.trans (by repeat (first | exact Below.refl _ _ | refine Below.drew ?_ | (refine Below.alloc ?_ (by simp <;> omega) _))) (hb1.mono (by simp; omega))
    have HR := Aside.mk (show R20 s id w (w1.setRow w.heap.size (sesCells s A1' c1' A2' c2' A3' c3' A4' c4')) A1' c1' A2' c2' A3' c3' A4' c4' from
      ⟨d0.put _, d1.other (by omega) _, d2.other (by omega) _, hO.kp ((Kp.refl _ _).put (fun b hb => by simp at hb; omega) _) (by simp), hSp.kp ((Kp.refl _ _).put (fun b hb => by simp at hb; omega) _) (by simp), below_put hB1 (Nat.le_refl _) _⟩)
    obtain ⟨d0c, d0f, d0s, d0h⟩ := d0.all
    clear hO hSp hb1 d0 d1 d2 hB1
    go_wp2_with fail
    go_meet
    exact ⟨A1', c1', A2', c2', A3', c3', A4', c4', HR.out⟩
  case rest =>
    obtain ⟨A1', c1', A2', c2', A3', c3', A4', c4', hR⟩ := hcut
    obtain ⟨d0c, d0f, d0s, d0h⟩ := hR.b1.all
    obtain ⟨d1c, d1f, d1s, d1h⟩ := hR.b2.all
    obtain ⟨d2c, d2f, d2s, d2h⟩ := hR.b3.all
    have hsz : w.heap.size + 3 ≤ wc.heap.size := by have := hR.b3.lt; omega
    have HR := Aside.mk hR
    have HRD := Aside.mk (hR.own.rd hl1 hl2 hl3 hl4)
    clear hR
    go_wp2_with fail
    go_region_with
      (first
        | (go_at_call 36; refine (find_any 37 (.inl rfl) s.flight A3' c3' (fun b => w.heap.size + 3 ≤ b) id w.heap.size _ (HRD.out.flight.below (Below.refl _ _).drew) (d0c 3)).mono ?_; rintro e w1 ⟨rfl, hb1⟩; rw [findI_place]; have HB1 := Aside.mk (below_all (Below.refl wc.heap.size wc).drew (Nat.le_refl _) hb1); have e0 := HR.out.b1.belowAll HB1.out; have e1 := HR.out.b2.belowAll HB1.out; have e2 := HR.out.b3.belowAll HB1.out; obtain ⟨e0c, e0f, _, _⟩ := e0.all; obtain ⟨e1c, e1f, _, _⟩ := e1.all; obtain ⟨e2c, e2f, _, _⟩ := e2.all; have E2 := Aside.mk e2; clear e0 e1 e2 hb1)
        | (go_at_call 35; refine (answered_any s (s.flight.findIdx? (findP id 37)) (fun i hi => findIdx_lt hi) A1' c1' A2' c2' A3' c3' A4' c4' (w.heap.size + 3) w1 (HR.out.own.kp ((Kp.refl _ _).below HB1.out) (Nat.le_refl _)) (by have := HB1.out.size; omega) hl1 hl2 (by omega) hl4).mono ?_; rintro e w2 ⟨vs, vp, rfl, ⟨B1, f1, B2, f2, B3, f3, B4, f4, rfl, hrd⟩, hpk, hb2⟩; have k2 := E2.out.below hb2 (by omega); obtain ⟨k2c, k2f, k2s, k2h⟩ := k2.all; have K2 := Aside.mk k2; have HRD2 := Aside.mk hrd; have HPK := Aside.mk hpk; have HB2 := Aside.mk hb2; clear k2 hrd hpk hb2))
    all_goals
      simp only [sesCells]
      go_wp2_with fail
      refine bodyPost_ret (res_ct rfl _ _ (w.heap.size + 2) 27 _ _ rfl (K2.out.put _) Try.underlying27 rfl (by kernel_rfl)) rfl ?_
      refine ⟨_, _, rfl, ⟨B1, f1, B2, f2, B3, f3, B4, f4, rfl, ?_⟩, HPK.out.kp' (Kp.put (Kp.refl _ _) (fun b hb => by omega) _) (fun b hb => by omega), ?_⟩
      · exact (HRD2.out.move (Kp.put (Kp.refl _ _) (fun b hb => by omega) _).2).mono (fun b hb _ => by omega)
      · exact below_put ((HR.out.below.trans (HB1.out.mono (by omega))).trans (HB2.out.mono (by omega))) (by omega) _

set_option maxRecDepth 100000 in
set_option maxHeartbeats 4000000 in
theorem answer_comp (s : Ses) (A1 : Option Addr) (c1 : Nat) (A2 : Option Addr) (c2 : Nat) (A3 : Option Addr) (c3 : Nat) (A4 : Option Addr) (c4 : Nat) (id : Int) (ok : Nat → Prop) (w : World)
    (h : RdSes ok w s A1 c1 A2 c2 A3 c3 A4 c4) (hl5 : s.flight.length ≤ 1000) (hi1 : 1 ≤ id) (hi2 : id ≤ 65535) :
    Calls Try.prog 20 #[.agg (sesCells s A1 c1 A2 c2 A3 c3 A4 c4), .int .i64 7, .int .i64 id] w (Post18 (doneD s (s.flight.findIdx? (findP id 39))) w) := by
  have hl1 := h.subs.2.2.1; have hl2 := h.queue.2.2.1; have hl3 := h.flight.2.2.1; have hl4 := h.ids.2.2.1
  have H := Aside.mk h
  clear h
  simp only [sesCells]
  go_enter Try.func20, Try.ntmps20
  go_upto_region 1 with fail
  go_cut [] (fun wx => ∃ A1' c1' A2' c2' A3' c3' A4' c4', R20 s id w wx A1' c1' A2' c2' A3' c3' A4' c4')
  case first =>
    go_wp2_with fail
    refine (own_sep s A1 c1 A2 c2 A3 c3 A4 c4 ok _ ?hS).mono ?_
    case hS => exact H.out.below (by repeat (first | exact Below.refl _ _ | refine Below.drew ?_ | (refine Below.alloc ?_ (by simp <;> omega) _)))
    rintro e w1 ⟨A1', c1', A2', c2', A3', c3', A4', c4', rfl, hO, hSp, hb1⟩
    have d0 := (((Blk.new w 27 (sesCells s A1 c1 A2 c2 A3 c3 A4 c4)).alloc (.cells #[.int .i64 id] 3)).alloc (.cells zeroSes 27)).below hb1 (by simp <;> omega)
    have d1 := ((Blk.newAt (w.alloc (.cells (sesCells s A1 c1 A2 c2 A3 c3 A4 c4) 27)) (w.heap.size + 1) (by simp) 3 #[.int .i64 id]).alloc (.cells zeroSes 27)).below hb1 (by simp <;> omega)
    have d2 := (Blk.newAt ((w.alloc (.cells (sesCells s A1 c1 A2 c2 A3 c3 A4 c4) 27)).alloc (.cells #[.int .i64 id] 3)) (w.heap.size + 2) (by simp) 27 zeroSes).below hb1 (by simp <;> omega)
    have hB1 : Below w.heap.size w w1 := Below.trans (by repeat (first | exact Below.refl _ _ | refine Below.drew ?_ | (refine Below.alloc ?_ (by simp <;> omega) _))) (hb1.mono (by simp; omega))
    have HR := Aside.mk (show R20 s id w (w1.setRow w.heap.size (sesCells s A1' c1' A2' c2' A3' c3' A4' c4')) A1' c1' A2' c2' A3' c3' A4' c4' from
      ⟨d0.put _, d1.other (by omega) _, d2.other (by omega) _, hO.kp ((Kp.refl _ _).put (fun b hb => by simp at hb; omega) _) (by simp), hSp.kp ((Kp.refl _ _).put (fun b hb => by simp at hb; omega) _) (by simp), below_put hB1 (Nat.le_refl _) _⟩)
    obtain ⟨d0c, d0f, d0s, d0h⟩ := d0.all
    clear hO hSp hb1 d0 d1 d2 hB1
    go_wp2_with fail
    go_meet
    exact ⟨A1', c1', A2', c2', A3', c3', A4', c4', HR.out⟩
  case rest =>
    obtain ⟨A1', c1', A2', c2', A3', c3', A4', c4', hR⟩ := hcut
    obtain ⟨d0c, d0f, d0s, d0h⟩ := hR.b1.all
    obtain ⟨d1c, d1f, d1s, d1h⟩ := hR.b2.all
    obtain ⟨d2c, d2f, d2s, d2h⟩ := hR.b3.all
    have hsz : w.heap.size + 3 ≤ wc.heap.size := by have := hR.b3.lt; omega
    have HR := Aside.mk hR
    have HRD := Aside.mk (hR.own.rd hl1 hl2 hl3 hl4)
    clear hR
    go_wp2_with fail
    go_region_with
      (first
        | (go_at_call 36; refine (find_any 39 (.inr (.inr rfl)) s.flight A3' c3' (fun b => w.heap.size + 3 ≤ b) id w.heap.size _ (HRD.out.flight.below (Below.refl _ _).drew) (d0c 3)).mono ?_; rintro e w1 ⟨rfl, hb1⟩; rw [findI_place]; have HB1 := Aside.mk (below_all (Below.refl wc.heap.size wc).drew (Nat.le_refl _) hb1); have e0 := HR.out.b1.belowAll HB1.out; have e1 := HR.out.b2.belowAll HB1.out; have e2 := HR.out.b3.belowAll HB1.out; obtain ⟨e0c, e0f, _, _⟩ := e0.all; obtain ⟨e1c, e1f, _, _⟩ := e1.all; obtain ⟨e2c, e2f, _, _⟩ := e2.all; have E2 := Aside.mk e2; clear e0 e1 e2 hb1)
        | (go_at_call 35; refine (answered_any s (s.flight.findIdx? (findP id 39)) (fun i hi => findIdx_lt hi) A1' c1' A2' c2' A3' c3' A4' c4' (w.heap.size + 3) w1 (HR.out.own.kp ((Kp.refl _ _).below HB1.out) (Nat.le_refl _)) (by have := HB1.out.size; omega) hl1 hl2 (by omega) hl4).mono ?_; rintro e w2 ⟨vs, vp, rfl, ⟨B1, f1, B2, f2, B3, f3, B4, f4, rfl, hrd⟩, hpk, hb2⟩; have k2 := E2.out.below hb2 (by omega); obtain ⟨k2c, k2f, k2s, k2h⟩ := k2.all; have K2 := Aside.mk k2; have HRD2 := Aside.mk hrd; have HPK := Aside.mk hpk; have HB2 := Aside.mk hb2; clear k2 hrd hpk hb2))
    all_goals
      simp only [sesCells]
      go_wp2_with fail
      refine bodyPost_ret (res_ct rfl _ _ (w.heap.size + 2) 27 _ _ rfl (K2.out.put _) Try.underlying27 rfl (by kernel_rfl)) rfl ?_
      refine ⟨_, _, rfl, ⟨B1, f1, B2, f2, B3, f3, B4, f4, rfl, ?_⟩, HPK.out.kp' (Kp.put (Kp.refl _ _) (fun b hb => by omega) _) (fun b hb => by omega), ?_⟩
      · exact (HRD2.out.move (Kp.put (Kp.refl _ _) (fun b hb => by omega) _).2).mono (fun b hb _ => by omega)
      · exact below_put ((HR.out.below.trans (HB1.out.mono (by omega))).trans (HB2.out.mono (by omega))) (by omega) _

set_option maxRecDepth 100000 in
set_option maxHeartbeats 4000000 in
theorem answer_rec_none (s : Ses) (A1 : Option Addr) (c1 : Nat) (A2 : Option Addr) (c2 : Nat) (A3 : Option Addr) (c3 : Nat) (A4 : Option Addr) (c4 : Nat) (id : Int) (ok : Nat → Prop) (w : World)
    (h : RdSes ok w s A1 c1 A2 c2 A3 c3 A4 c4) (hl5 : s.flight.length ≤ 1000) (hi1 : 1 ≤ id) (hi2 : id ≤ 65535) (hf : s.flight.findIdx? (findP id 38) = none) :
    Calls Try.prog 20 #[.agg (sesCells s A1 c1 A2 c2 A3 c3 A4 c4), .int .i64 5, .int .i64 id] w (Post18 (s, [bareP 6 id]) w) := by
  have hl1 := h.subs.2.2.1; have hl2 := h.queue.2.2.1; have hl3 := h.flight.2.2.1; have hl4 := h.ids.2.2.1
  have H := Aside.mk h
  clear h
  simp only [sesCells]
  go_enter Try.func20, Try.ntmps20
  go_upto_region 1 with fail
  go_cut [] (fun wx => ∃ A1' c1' A2' c2' A3' c3' A4' c4', R20 s id w wx A1' c1' A2' c2' A3' c3' A4' c4')
  case first =>
    go_wp2_with fail
    refine (own_sep s A1 c1 A2 c2 A3 c3 A4 c4 ok _ ?hS).mono ?_
    case hS => exact H.out.below (by repeat (first | exact Below.refl _ _ | refine Below.drew ?_ | (refine Below.alloc ?_ (by simp <;> omega) _)))
    rintro e w1 ⟨A1', c1', A2', c2', A3', c3', A4', c4', rfl, hO, hSp, hb1⟩
    have d0 := (((Blk.new w 27 (sesCells s A1 c1 A2 c2 A3 c3 A4 c4)).alloc (.cells #[.int .i64 id] 3)).alloc (.cells zeroSes 27)).below hb1 (by simp <;> omega)
    have d1 := ((Blk.newAt (w.alloc (.cells (sesCells s A1 c1 A2 c2 A3 c3 A4 c4) 27)) (w.heap.size + 1) (by simp) 3 #[.int .i64 id]).alloc (.cells zeroSes 27)).below hb1 (by simp <;> omega)
    have d2 := (Blk.newAt ((w.alloc (.cells (sesCells s A1 c1 A2 c2 A3 c3 A4 c4) 27)).alloc (.cells #[.int .i64 id] 3)) (w.heap.size + 2) (by simp) 27 zeroSes).below hb1 (by simp <;> omega)
    have hB1 : Below w.heap.size w w1 := Below.trans (by repeat (first | exact Below.refl _ _ | refine Below.drew ?_ | (refine Below.alloc ?_ (by simp <;> omega) _))) (hb1.mono (by simp; omega))
    have HR := Aside.mk (show R20 s id w (w1.setRow w.heap.size (sesCells s A1' c1' A2' c2' A3' c3' A4' c4')) A1' c1' A2' c2' A3' c3' A4' c4' from
      ⟨d0.put _, d1.other (by omega) _, d2.other (by omega) _, hO.kp ((Kp.refl _ _).put (fun b hb => by simp at hb; omega) _) (by simp), hSp.kp ((Kp.refl _ _).put (fun b hb => by simp at hb; omega) _) (by simp), below_put hB1 (Nat.le_refl _) _⟩)
    obtain ⟨d0c, d0f, d0s, d0h⟩ := d0.all
    clear hO hSp hb1 d0 d1 d2 hB1
    go_wp2_with fail
    go_meet
    exact ⟨A1', c1', A2', c2', A3', c3', A4', c4', HR.out⟩
  case rest =>
    obtain ⟨A1', c1', A2', c2', A3', c3', A4', c4', hR⟩ := hcut
    obtain ⟨d0c, d0f, d0s, d0h⟩ := hR.b1.all
    obtain ⟨d1c, d1f, d1s, d1h⟩ := hR.b2.all
    obtain ⟨d2c, d2f, d2s, d2h⟩ := hR.b3.all
    have hsz : w.heap.size + 3 ≤ wc.heap.size := by have := hR.b3.lt; omega
    have HR := Aside.mk hR
    have HRD := Aside.mk (hR.own.rd hl1 hl2 hl3 hl4)
    clear hR
    have HF := Aside.mk hf
    clear hf
    go_wp2_with fail
    refine (find_any 38 (.inr (.inl rfl)) s.flight A3' c3' (fun b => w.heap.size + 3 ≤ b) id w.heap.size _ HRD.out.flight (d0c 3)).mono ?_
    rintro e w1 ⟨rfl, hb1⟩
    rw [findI_place, HF.out]
    simp only [placeI]
    have HN := Aside.mk (show R20b s id w w1 A1' c1' A2' c2' A3' c3' A4' c4' from ⟨HR.out.b1.belowAll hb1, HR.out.b2.belowAll hb1, HR.out.b3.belowAll hb1, HRD.out.below hb1, below_all HR.out.below HR.out.below.size hb1⟩)
    clear hb1
    go_upto_if 32 with (fail)
    go_cut [] (fun wx => ∃ B1 f1 B2 f2 B3 f3 B4 f4, R20b (s) id w wx B1 f1 B2 f2 B3 f3 B4 f4)
    case first =>
      go_wp2_with fail
      go_meet
      exact ⟨_, _, _, _, _, _, _, _, HN.out⟩
    case rest =>
      clear d0c d0f d0s d0h d1c d1f d1s d1h d2c d2f d2s d2h hsz
      obtain ⟨B1, f1, B2, f2, B3, f3, B4, f4, hR2⟩ := hcut
      obtain ⟨d0c, d0f, d0s, d0h⟩ := hR2.b1.all
      obtain ⟨d1c, d1f, d1s, d1h⟩ := hR2.b2.all
      obtain ⟨d2c, d2f, d2s, d2h⟩ := hR2.b3.all
      have hlt2 : w.heap.size + 2 < wc.heap.size := hR2.b3.lt
      have hlt1 : w.heap.size + 1 < wc.heap.size := by omega
      have hlt0 : w.heap.size < wc.heap.size := by omega
      have hne2 : ¬ w.heap.size + 2 = wc.heap.size := by omega
      have hne1 : ¬ w.heap.size + 1 = wc.heap.size := by omega
      have hne0 : ¬ w.heap.size = wc.heap.size := by omega
      have HR2 := Aside.mk hR2
      clear hR2
      go_upto_region 11 with fail
      go_region_with fail
      all_goals
        go_wp2_with fail
        refine bodyPost_ret (res_ct rfl _ _ (w.heap.size + 2) 27 _ _ rfl ((HR2.out.b3.put _).alloc _) Try.underlying27 rfl (by kernel_rfl)) rfl ?_
        refine ⟨_, _, rfl, ⟨B1, f1, B2, f2, B3, f3, B4, f4, rfl, ?_⟩, IsPktsIn.kp (w := (wc.setRow (w.heap.size + 2) (sesCells (s) B1 f1 B2 f2 B3 f3 B4 f4)).alloc (.cells (pktCells (bareP 6 id) none 0).toArray 43)) (IsPktsIn.bare _ _ wc.heap.size (by simp) 6 id (by omega)) ⟨Nat.le_refl _, fun _ _ _ => rfl⟩, ?_⟩
        · exact ((HR2.out.rd.move ((Kp.alloc (Kp.put (Kp.refl _ _) (g := w.heap.size + 2) (fun b hb => by omega) _) _).drew).2)).mono (fun b hb _ => by omega)
        · exact ((below_put HR2.out.below (g := w.heap.size + 2) (by omega) _).alloc (by simp; omega) _).drew

set_option maxRecDepth 100000 in
set_option maxHeartbeats 4000000 in
theorem answer_rec_some (s : Ses) (A1 : Option Addr) (c1 : Nat) (A2 : Option Addr) (c2 : Nat) (A3 : Option Addr) (c3 : Nat) (A4 : Option Addr) (c4 : Nat) (i : Nat) (id : Int) (ok : Nat → Prop) (w : World)
    (h : RdSes ok w s A1 c1 A2 c2 A3 c3 A4 c4) (hl5 : s.flight.length ≤ 1000) (hi1 : 1 ≤ id) (hi2 : id ≤ 65535) (hf : s.flight.findIdx? (findP id 38) = some i) :
    Calls Try.prog 20 #[.agg (sesCells s A1 c1 A2 c2 A3 c3 A4 c4), .int .i64 5, .int .i64 id] w (Post18 (gotS s i, [bareP 6 id]) w) := by
  have hl1 := h.subs.2.2.1; have hl2 := h.queue.2.2.1; have hl3 := h.flight.2.2.1; have hl4 := h.ids.2.2.1
  have H := Aside.mk h
  clear h
  simp only [sesCells]
  go_enter Try.func20, Try.ntmps20
  go_upto_region 1 with fail
  go_cut [] (fun wx => ∃ A1' c1' A2' c2' A3' c3' A4' c4', R20 s id w wx A1' c1' A2' c2' A3' c3' A4' c4')
  case first =>
    go_wp2_with fail
    refine (own_sep s A1 c1 A2 c2 A3 c3 A4 c4 ok _ ?hS).mono ?_
    case hS => exact H.out.below (by repeat (first | exact Below.refl _ _ | refine Below.drew ?_ | (refine Below.alloc ?_ (by simp <;> omega) _)))
    rintro e w1 ⟨A1', c1', A2', c2', A3', c3', A4', c4', rfl, hO, hSp, hb1⟩
    have d0 := (((Blk.new w 27 (sesCells s A1 c1 A2 c2 A3 c3 A4 c4)).alloc (.cells #[.int .i64 id] 3)).alloc (.cells zeroSes 27)).below hb1 (by simp <;> omega)
    have d1 := ((Blk.newAt (w.alloc (.cells (sesCells s A1 c1 A2 c2 A3 c3 A4 c4) 27)) (w.heap.size + 1) (by simp) 3 #[.int .i64 id]).alloc (.cells zeroSes 27)).below hb1 (by simp <;> omega)
    have d2 := (Blk.newAt ((w.alloc (.cells (sesCells s A1 c1 A2 c2 A3 c3 A4 c4) 27)).alloc (.cells #[.int .i64 id] 3)) (w.heap.size + 2) (by simp) 27 zeroSes).below hb1 (by simp <;> omega)
    have hB1 : Below w.heap.size w w1 := Below.trans (by repeat (first | exact Below.refl _ _ | refine Below.drew ?_ | (refine Below.alloc ?_ (by simp <;> omega) _))) (hb1.mono (by simp; omega))
    have HR := Aside.mk (show R20 s id w (w1.setRow w.heap.size (sesCells s A1' c1' A2' c2' A3' c3' A4' c4')) A1' c1' A2' c2' A3' c3' A4' c4' from
      ⟨d0.put _, d1.other (by omega) _, d2.other (by omega) _, hO.kp ((Kp.refl _ _).put (fun b hb => by simp at hb; omega) _) (by simp), hSp.kp ((Kp.refl _ _).put (fun b hb => by simp at hb; omega) _) (by simp), below_put hB1 (Nat.le_refl _) _⟩)
    obtain ⟨d0c, d0f, d0s, d0h⟩ := d0.all
    clear hO hSp hb1 d0 d1 d2 hB1
    go_wp2_with fail
    go_meet
    exact ⟨A1', c1', A2', c2', A3', c3', A4', c4', HR.out⟩
  case rest =>
    obtain ⟨A1', c1', A2', c2', A3', c3', A4', c4', hR⟩ := hcut
    obtain ⟨d0c, d0f, d0s, d0h⟩ := hR.b1.all
    obtain ⟨d1c, d1f, d1s, d1h⟩ := hR.b2.all
    obtain ⟨d2c, d2f, d2s, d2h⟩ := hR.b3.all
    have hsz : w.heap.size + 3 ≤ wc.heap.size := by have := hR.b3.lt; omega
    have HR := Aside.mk hR
    have HRD := Aside.mk (hR.own.rd hl1 hl2 hl3 hl4)
    clear hR
    have hi := findIdx_lt hf
    have HF := Aside.mk hf
    obtain ⟨g, cur, hA3, hg3, hbg, hnc, hcm, hcs⟩ := own_flts HR.out.own.flight (by omega)
    subst hA3
    clear hf
    go_wp2_with fail
    refine (find_any 38 (.inr (.inl rfl)) s.flight (some ⟨g, 0, none⟩) c3' (fun b => w.heap.size + 3 ≤ b) id w.heap.size _ HRD.out.flight (d0c 3)).mono ?_
    rintro e w1 ⟨rfl, hb1⟩
    rw [findI_place, HF.out]
    simp only [placeI]
    have e0 := HR.out.b1.belowAll hb1
    have e1 := HR.out.b2.belowAll hb1
    have e2 := HR.out.b3.belowAll hb1
    have e3 := hbg.belowAll hb1
    have hHf := HR.out.own.flight
    have hO1 : OwnSes (w.heap.size + 3) w1 s (.slice A1' s.subs.length c1') (.slice A2' s.queue.length c2') (.slice (some ⟨g, 0, none⟩) s.flight.length c3') (.slice A4' s.ids.length c4') := HR.out.own.kp ((Kp.refl _ _).below hb1) (Nat.le_refl _)
    have hgr := grown_put w1 g (cur.setIfInBounds (i * 8 + 1) (.int .i64 2))
    have hO2 := hO1.turned (v3' := .slice (some ⟨g, 0, none⟩) s.flight.length c3') (g := w.heap.size) ((Turn.refl w.heap.size (some g) w1).grown hgr (.inl rfl)) (by omega) (AtOrNew.refl _ _) (own_flts_got hO1.flight e3 i hi) s.nid s.snt
    have hfl : (s.flight.modify i gotF).length = s.flight.length := List.length_modify _ _ _
    have hrd : RdSes (fun b => w.heap.size + 3 ≤ b) (w1.setRow g (cur.setIfInBounds (i * 8 + 1) (.int .i64 2))) (gotS s i) A1' c1' A2' c2' (some ⟨g, 0, none⟩) c3' A4' c4' := OwnSes.rd (s := gotS s i) (by
      show OwnSes _ _ _ _ _ (.slice (some ⟨g, 0, none⟩) (s.flight.modify i gotF).length c3') _
      rw [hfl]
      exact hO2) hl1 hl2 (by show (s.flight.modify i gotF).length * 88 ≤ _; rw [hfl]; exact hl3) hl4
    have HN := Aside.mk (show R20b (gotS s i) id w (w1.setRow g (cur.setIfInBounds (i * 8 + 1) (.int .i64 2))) A1' c1' A2' c2' (some ⟨g, 0, none⟩) c3' A4' c4' from
      ⟨by have := e0.other (g' := g) (by omega) (cur.setIfInBounds (i * 8 + 1) (.int .i64 2)); unfold sesCells at this ⊢; rw [show (gotS s i).flight.length = s.flight.length from hfl]; exact this, e1.other (by omega) _, e2.other (by omega) _, hrd, below_put (below_all HR.out.below HR.out.below.size hb1) (by omega) _⟩)
    obtain ⟨e0c, e0f, _, _⟩ := e0.all
    obtain ⟨e3c, e3f, e3s, _⟩ := e3.all
    obtain ⟨ux, hx⟩ : ∃ u, cur[i * 8 + 1]? = some u := ⟨_, Array.getElem?_eq_getElem (by omega)⟩
    have hi1 : (0 : Int) ≤ (i : Int) := by omega
    have hi2 : (i : Int) < (s.flight.length : Int) := by omega
    clear hb1 e0 e1 e2 e3 hHf hO1 hgr hO2 hrd hbg hcs d0c d0f d1c d1f d2c d2f hfl
    go_upto_if 32 with (fail)
    go_cut [] (fun wx => ∃ B1 f1 B2 f2 B3 f3 B4 f4, R20b (gotS s i) id w wx B1 f1 B2 f2 B3 f3 B4 f4)
    case first =>
      go_wp2_with fail
      go_meet
      exact ⟨_, _, _, _, _, _, _, _, HN.out⟩
    case rest =>
      clear e0c e0f e3c e3f e3s d0s d0h d1s d1h d2s d2h hsz
      obtain ⟨B1, f1, B2, f2, B3, f3, B4, f4, hR2⟩ := hcut
      obtain ⟨d0c, d0f, d0s, d0h⟩ := hR2.b1.all
      obtain ⟨d1c, d1f, d1s, d1h⟩ := hR2.b2.all
      obtain ⟨d2c, d2f, d2s, d2h⟩ := hR2.b3.all
      have hlt2 : w.heap.size + 2 < wc.heap.size := hR2.b3.lt
      have hlt1 : w.heap.size + 1 < wc.heap.size := by omega
      have hlt0 : w.heap.size < wc.heap.size := by omega
      have hne2 : ¬ w.heap.size + 2 = wc.heap.size := by omega
      have hne1 : ¬ w.heap.size + 1 = wc.heap.size := by omega
      have hne0 : ¬ w.heap.size = wc.heap.size := by omega
      have HR2 := Aside.mk hR2
      clear hR2
      go_upto_region 11 with fail
      go_region_with fail
      all_goals
        go_wp2_with fail
        refine bodyPost_ret (res_ct rfl _ _ (w.heap.size + 2) 27 _ _ rfl ((HR2.out.b3.put _).alloc _) Try.underlying27 rfl (by kernel_rfl)) rfl ?_
        refine ⟨_, _, rfl, ⟨B1, f1, B2, f2, B3, f3, B4, f4, rfl, ?_⟩, IsPktsIn.kp (w := (wc.setRow (w.heap.size + 2) (sesCells (gotS s i) B1 f1 B2 f2 B3 f3 B4 f4)).alloc (.cells (pktCells (bareP 6 id) none 0).toArray 43)) (IsPktsIn.bare _ _ wc.heap.size (by simp) 6 id (by omega)) ⟨Nat.le_refl _, fun _ _ _ => rfl⟩, ?_⟩
        · exact ((HR2.out.rd.move ((Kp.alloc (Kp.put (Kp.refl _ _) (g := w.heap.size + 2) (fun b hb => by omega) _) _).drew).2)).mono (fun b hb _ => by omega)
        · exact ((below_put HR2.out.below (g := w.heap.size + 2) (by omega) _).alloc (by simp; omega) _).drew

set_option maxRecDepth 100000 in
set_option maxHeartbeats 4000000 in
theorem answer_rel (s : Ses) (A1 : Option Addr) (c1 : Nat) (A2 : Option Addr) (c2 : Nat) (A3 : Option Addr) (c3 : Nat) (A4 : Option Addr) (c4 : Nat) (id : Int) (ok : Nat → Prop) (w : World)
    (h : RdSes ok w s A1 c1 A2 c2 A3 c3 A4 c4) (hl5 : s.flight.length ≤ 1000) (hi1 : 1 ≤ id) (hi2 : id ≤ 65535) :
    Calls Try.prog 20 #[.agg (sesCells s A1 c1 A2 c2 A3 c3 A4 c4), .int .i64 6, .int .i64 id] w (Post18 (freeS s id, [bareP 7 id]) w) := by
  have hl1 := h.subs.2.2.1; have hl2 := h.queue.2.2.1; have hl3 := h.flight.2.2.1; have hl4 := h.ids.2.2.1
  have H := Aside.mk h
  clear h
  simp only [sesCells]
  go_enter Try.func20, Try.ntmps20
  go_upto_region 1 with fail
  go_cut [] (fun wx => ∃ A1' c1' A2' c2' A3' c3' A4' c4', R20 s id w wx A1' c1' A2' c2' A3' c3' A4' c4')
  case first =>
    go_wp2_with fail
    refine (own_sep s A1 c1 A2 c2 A3 c3 A4 c4 ok _ ?hS).mono ?_
    case hS => exact H.out.below (by repeat (first | exact Below.refl _ _ | refine Below.drew ?_ | (refine Below.alloc ?_ (by simp <;> omega) _)))
    rintro e w1 ⟨A1', c1', A2', c2', A3', c3', A4', c4', rfl, hO, hSp, hb1⟩
    have d0 := (((Blk.new w 27 (sesCells s A1 c1 A2 c2 A3 c3 A4 c4)).alloc (.cells #[.int .i64 id] 3)).alloc (.cells zeroSes 27)).below hb1 (by simp <;> omega)
    have d1 := ((Blk.newAt (w.alloc (.cells (sesCells s A1 c1 A2 c2 A3 c3 A4 c4) 27)) (w.heap.size + 1) (by simp) 3 #[.int .i64 id]).alloc (.cells zeroSes 27)).below hb1 (by simp <;> omega)
    have d2 := (Blk.newAt ((w.alloc (.cells (sesCells s A1 c1 A2 c2 A3 c3 A4 c4) 27)).alloc (.cells #[.int .i64 id] 3)) (w.heap.size + 2) (by simp) 27 zeroSes).below hb1 (by simp <;> omega)
    have hB1 : Below w.heap.size w w1 := Below.trans (by repeat (first | exact Below.refl _ _ | refine Below.drew ?_ | (refine Below.alloc ?_ (by simp <;> omega) _))) (hb1.mono (by simp; omega))
    have HR := Aside.mk (show R20 s id w (w1.setRow w.heap.size (sesCells s A1' c1' A2' c2' A3' c3' A4' c4')) A1' c1' A2' c2' A3' c3' A4' c4' from
      ⟨d0.put _, d1.other (by omega) _, d2.other (by omega) _, hO.kp ((Kp.refl _ _).put (fun b hb => by simp at hb; omega) _) (by simp), hSp.kp ((Kp.refl _ _).put (fun b hb => by simp at hb; omega) _) (by simp), below_put hB1 (Nat.le_refl _) _⟩)
    obtain ⟨d0c, d0f, d0s, d0h⟩ := d0.all
    clear hO hSp hb1 d0 d1 d2 hB1
    go_wp2_with fail
    go_meet
    exact ⟨A1', c1', A2', c2', A3', c3', A4', c4', HR.out⟩
  case rest =>
    obtain ⟨A1', c1', A2', c2', A3', c3', A4', c4', hR⟩ := hcut
    obtain ⟨d0c, d0f, d0s, d0h⟩ := hR.b1.all
    obtain ⟨d1c, d1f, d1s, d1h⟩ := hR.b2.all
    obtain ⟨d2c, d2f, d2s, d2h⟩ := hR.b3.all
    have hsz : w.heap.size + 3 ≤ wc.heap.size := by have := hR.b3.lt; omega
    have HR := Aside.mk hR
    have HRD := Aside.mk (hR.own.rd hl1 hl2 hl3 hl4)
    clear hR
    go_upto_region 15 with fail
    go_cut [] (fun wx => ∃ B1 f1 B2 f2 B3 f3 B4 f4, R20b (freeS s id) id w wx B1 f1 B2 f2 B3 f3 B4 f4)
    case first =>
      go_wp2_with fail
      refine (deleteI_any s.ids A4' c4' id (w.heap.size + 1) (fun b => (w.heap.size + 3 ≤ b ∧ some b ≠ (Value.slice A2' s.queue.length c2').ownBlock) ∧ some b ≠ (Value.slice A3' s.flight.length c3').ownBlock) (w.heap.size + 3) wc HR.out.own.ids (d1c 0) (by omega)).mono ?_
      rintro e w1 ⟨rfl, hO, hgr⟩
      have hrow := fun b hb => (HR.out.own.ids.ge b hb).1
      have e0 := HR.out.b1.grown hgr (fun e => by have := hrow _ e.symm; omega)
      have e1 := HR.out.b2.grown hgr (fun e => by have := hrow _ e.symm; omega)
      have e2 := HR.out.b3.grown hgr (fun e => by have := hrow _ e.symm; omega)
      have hfl : (s.ids.filter (fun x => !(x == id))).length ≤ s.ids.length := List.length_filter_le _ _
      obtain ⟨B1, f1, x1, hS1⟩ := HR.out.sep.subs.reads (bytes := 24) hl1
      obtain ⟨B2, f2, x2, hS2⟩ := HR.out.sep.queue.reads (bytes := 64) hl2
      obtain ⟨B3, f3, x3, hS3⟩ := HR.out.sep.flight.reads (bytes := 88) hl3
      obtain ⟨B4, f4, x4, hS4⟩ := hO.reads (bytes := 8) (by omega)
      injection x1 with x1 _ y1; injection x2 with x2 _ y2; injection x3 with x3 _ y3; injection x4 with x4 _ y4
      subst x1 y1 x2 y2 x3 y3 x4 y4
      have HN := Aside.mk (show R20b (freeS s id) id w (w1.setRow w.heap.size (sesCells (freeS s id) A1' c1' A2' c2' A3' c3' A4' c4')) A1' c1' A2' c2' A3' c3' A4' c4' from
        ⟨e0.put _, e1.other (by omega) _, e2.other (by omega) _,
          ⟨(hS1.kp (((Kp.refl _ _).grown hgr (fun b hb => hb.2)).put (fun b hb => by have := hb.1; omega) _)).mono (fun b hb _ => hb.1), (hS2.kp (((Kp.refl _ _).grown hgr (fun b hb => hb.2)).put (fun b hb => by have := hb.1; omega) _)).mono (fun b hb _ => hb.1),
           (hS3.kp (((Kp.refl _ _).grown hgr (fun b hb => hb.2)).put (fun b hb => by have := hb.1; omega) _)).mono (fun b hb _ => hb.1), (hS4.kp ((Kp.refl _ _).put (fun b hb => by have := hb.1.1; omega) _)).mono (fun b hb _ => hb.1.1)⟩,
          below_put (HR.out.below.grown hgr HR.out.below.size (fun b hb => by have := hrow b hb; omega)) (Nat.le_refl _) _⟩)
      obtain ⟨e0c, e0f, e0s, e0h⟩ := e0.all
      clear hO hgr e0 e1 e2 hS1 hS2 hS3 hS4 d0c d0f d0s d0h d1c d1f d1s d1h d2c d2f d2s d2h hrow
      go_wp2_with fail
      go_meet
      exact ⟨_, _, _, _, _, _, _, _, HN.out⟩
    case rest =>
      clear d0c d0f d0s d0h d1c d1f d1s d1h d2c d2f d2s d2h hsz
      obtain ⟨B1, f1, B2, f2, B3, f3, B4, f4, hR2⟩ := hcut
      obtain ⟨d0c, d0f, d0s, d0h⟩ := hR2.b1.all
      obtain ⟨d1c, d1f, d1s, d1h⟩ := hR2.b2.all
      obtain ⟨d2c, d2f, d2s, d2h⟩ := hR2.b3.all
      have hlt2 : w.heap.size + 2 < wc.heap.size := hR2.b3.lt
      have hlt1 : w.heap.size + 1 < wc.heap.size := by omega
      have hlt0 : w.heap.size < wc.heap.size := by omega
      have hne2 : ¬ w.heap.size + 2 = wc.heap.size := by omega
      have hne1 : ¬ w.heap.size + 1 = wc.heap.size := by omega
      have hne0 : ¬ w.heap.size = wc.heap.size := by omega
      have HR2 := Aside.mk hR2
      clear hR2
      go_upto_region 16 with fail
      go_region_with fail
      all_goals
        go_wp2_with fail
        refine bodyPost_ret (res_ct rfl _ _ (w.heap.size + 2) 27 _ _ rfl ((HR2.out.b3.put _).alloc _) Try.underlying27 rfl (by kernel_rfl)) rfl ?_
        refine ⟨_, _, rfl, ⟨B1, f1, B2, f2, B3, f3, B4, f4, rfl, ?_⟩, IsPktsIn.kp (w := (wc.setRow (w.heap.size + 2) (sesCells (freeS s id) B1 f1 B2 f2 B3 f3 B4 f4)).alloc (.cells (pktCells (bareP 7 id) none 0).toArray 43)) (IsPktsIn.bare _ _ wc.heap.size (by simp) 7 id (by omega)) ⟨Nat.le_refl _, fun _ _ _ => rfl⟩, ?_⟩
        · exact ((HR2.out.rd.move ((Kp.alloc (Kp.put (Kp.refl _ _) (g := w.heap.size + 2) (fun b hb => by omega) _) _).drew).2)).mono (fun b hb _ => by omega)
        · exact ((below_put HR2.out.below (g := w.heap.size + 2) (by omega) _).alloc (by simp; omega) _).drew

theorem answer_any (s : Ses) (A1 : Option Addr) (c1 : Nat) (A2 : Option Addr) (c2 : Nat) (A3 : Option Addr) (c3 : Nat) (A4 : Option Addr) (c4 : Nat) (kind id : Int) (ok : Nat → Prop) (w : World)
    (h : RdSes ok w s A1 c1 A2 c2 A3 c3 A4 c4) (hl5 : s.flight.length ≤ 1000) :
    Calls Try.prog 20 #[.agg (sesCells s A1 c1 A2 c2 A3 c3 A4 c4), .int .i64 kind, .int .i64 id] w (Post18 (answerD s kind id) w) := by
  unfold answerD
  by_cases h0 : id < 1
  · rw [if_pos (.inl h0)]
    exact answer_low s A1 c1 A2 c2 A3 c3 A4 c4 kind id ok w h hl5 h0
  · by_cases h1 : 65535 < id
    · rw [if_pos (.inr h1)]
      exact answer_high s A1 c1 A2 c2 A3 c3 A4 c4 kind id ok w h hl5 (by omega) h1
    · rw [if_neg (by omega)]
      have hi1 : 1 ≤ id := by omega
      have hi2 : id ≤ 65535 := by omega
      by_cases h4 : kind = 4
      · rw [if_pos h4, h4]
        exact answer_ack s A1 c1 A2 c2 A3 c3 A4 c4 id ok w h hl5 hi1 hi2
      · rw [if_neg h4]
        by_cases h5 : kind = 5
        · rw [if_pos h5, h5]
          cases hf : s.flight.findIdx? (findP id 38) with
          | none => exact answer_rec_none s A1 c1 A2 c2 A3 c3 A4 c4 id ok w h hl5 hi1 hi2 hf
          | some i => exact answer_rec_some s A1 c1 A2 c2 A3 c3 A4 c4 i id ok w h hl5 hi1 hi2 hf
        · rw [if_neg h5]
          by_cases h7 : kind = 7
          · rw [if_pos h7, h7]
            exact answer_comp s A1 c1 A2 c2 A3 c3 A4 c4 id ok w h hl5 hi1 hi2
          · rw [if_neg h7]
            by_cases h6 : kind = 6
            · rw [if_pos h6, h6]
              exact answer_rel s A1 c1 A2 c2 A3 c3 A4 c4 id ok w h hl5 hi1 hi2
            · rw [if_neg h6]
              exact answer_other s A1 c1 A2 c2 A3 c3 A4 c4 kind id ok w h hl5 hi1 hi2 (by simpa using h4) (by simpa using h5) (by simpa using h6) (by simpa using h7)
end Go.Proofs.Ytmeeldcgmfplnaa
