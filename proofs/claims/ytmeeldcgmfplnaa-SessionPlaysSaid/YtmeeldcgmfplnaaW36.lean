/-
  Contracts of the reference: without, Take.
-/
import Derived.Test.YtmeeldcgmfplnaaW35
import Derived.Test.YtmeeldcgmfplnaaW24
import Derived.Test.YtmeeldcgmfplnaaW12
import Derived.Deep.CutBlock
set_option linter.unusedVariables false
set_option linter.unusedSimpArgs false
namespace Go.Proofs.Ytmeeldcgmfplnaa
open Go.RowKit
attribute [local go_sem] setRow_setCell_same setRow_setCell_other setRow_cell_same setRow_cell_other setRow_frozen setRow_shape
attribute [local go_sem ↓] Go.wp_at_zero Go.wp_at_succ

/-- A row in new memory, what lies inside where it lay. -/
def PostRow {α : Type} (bytes : Nat) (d : Kn α) (ok : Nat → Prop) (xs : List α) (w : World) (e : Ending) (w' : World) : Prop :=
  ∃ A c, e = .returned (.slice A xs.length c) ∧ Sl bytes d (fun b => (ok b ∧ b < w.heap.size) ∨ w.heap.size ≤ b) w' A c xs ∧ Below w.heap.size w w'

theorem erase_parts {α : Type} (l : List α) (i : Nat) : l.take i ++ l.drop (i + 1) = l.eraseIdx i := (List.eraseIdx_eq_take_drop_succ l i).symm

set_option maxRecDepth 100000 in
set_option maxHeartbeats 8000000 in
theorem refWithout_any (fs : List Flt) (A : Option Addr) (c : Nat) (i : Nat) (hi : i < fs.length) (ok : Nat → Prop) (w : World) (h : Sl 88 kFlt ok w A c fs) :
    Calls Try.prog 46 #[.slice A fs.length c, .int .i64 i] w (PostRow 88 kFlt ok (fs.eraseIdx i) w) := by
  obtain ⟨ad, hA, _, _⟩ := Kn.C_lt h.2.2.2 (by omega)
  subst hA
  have hcap := h.1
  have hb1 := h.2.2.1
  have H := Aside.mk (h.mono (ok' := fun b => ok b ∧ b < w.heap.size) (fun b hb hlt => ⟨hb, hlt⟩))
  have hi0 : (0 : Int) ≤ (i : Int) := by omega
  have hic : (i : Int) ≤ (c : Int) := by omega
  have hil : (i : Int) < (fs.length : Int) := by omega
  have hw1 : wrap64 ((i : Int) + 1) = (i : Int) + 1 := by unfold wrap64; omega
  have hw2 : IntKind.i64.wrap ((i : Int) + 1) = (i : Int) + 1 := by unfold IntKind.wrap; simp [IntKind.bits, IntKind.signed]; omega
  have hii : (i : Int) ≤ (i : Int) + 1 := by omega
  have hil2 : (i : Int) + 1 ≤ (fs.length : Int) := by omega
  have hi10 : (0 : Int) ≤ (i : Int) + 1 := by omega
  have HT := Aside.mk (Kn.C_take H.out.2.2.2 i (by omega))
  have HDr := Aside.mk (Kn.C_drop (c := c) H.out.2.2.2 (i + 1) (by omega) (by omega))
  have HB := Aside.mk hb1
  clear h hb1
  go_enter Try.func46, Try.ntmps46
  go_upto_region 1 with fail
  by_cases hc2 : c = i + 1
  · subst hc2
    have hle : fs.length = i + 1 := by omega
    have HDr2 := Aside.mk (show kFlt.C (fun b => ok b ∧ b < w.heap.size) w (some ad) 0 (fs.drop (i + 1)) by rw [List.drop_of_length_le (by omega)]; exact Kn.C_nil _ _ _ _)
    have HLE := Aside.mk hle
    clear hle
    go_region_law (first | (refine step_append_Own (P := Try.prog) _ (by rfl) kFlt (.const (.slice none 0 0)) (.tmp 7) 24 50 (by rfl) zeroFlt 88 Try.underlying24 info50 rfl (by decide) (ok := fun b => (ok b ∧ b < w.heap.size) ∨ w.heap.size ≤ b) (okp := fun b => ok b ∧ b < w.heap.size) (lo := w.heap.size) (v := .slice none 0 0) (xs := []) (ys := fs.take i) (by rfl) (Own.nil _ _ _ _ _) (A := some ad) (m := i) (c := i + 1) (by rfl) (Kn.C_free (Kn.C_below HT.out (Below.refl _ _).drew)) (fun b hb _ => ⟨.inl hb, by simp [Value.ownBlock]⟩) (fun b hb => .inr hb) (Nat.le_refl _) (by have := HB.out; simp; omega) ?_; intro v1 w1 hO1 hg1 hat1; have hb1 := below_of_grown_none hg1; have hO1' := Aside.mk hO1; have HB1 := Aside.mk (show Below w.heap.size w w1 from Below.trans (Below.refl _ _).drew hb1); clear hO1 hg1 hat1 hb1) | (refine step_append_Own (P := Try.prog) _ (by rfl) kFlt (.tmp 8) (.tmp 12) 24 50 (by rfl) zeroFlt 88 Try.underlying24 info50 rfl (by decide) (ok := fun b => (ok b ∧ b < w.heap.size) ∨ w.heap.size ≤ b) (okp := fun b => ok b ∧ b < w.heap.size) (lo := w.heap.size) (v := v1) (xs := fs.take i) (ys := fs.drop (i + 1)) (by rfl) hO1'.out (A := some ad) (m := 0) (c := 0) (by rfl) (Kn.C_free (Kn.C_below (HDr2.out) HB1.out)) (fun b hb _ => ⟨.inl hb, fun e => by have := (hO1'.out.ge b e.symm).1; omega⟩) (fun b hb => .inr (by have := HB1.out.size; omega)) HB1.out.size (by have := HB.out; simp; omega) ?_; intro v2 w2 hO2 hg2 hat2; have hO2' := Aside.mk hO2; have HB2 := Aside.mk (HB1.out.grown hg2 HB1.out.size (fun b hb => (hO1'.out.ge b hb).1)); clear hO2 hg2 hat2))
    all_goals
      go_wp2_with fail
      go_ret
      obtain ⟨A2, c2, hv2, hS2⟩ := hO2'.out.reads (bytes := 88) (by have := HB.out; simp; omega)
      rw [erase_parts] at hv2 hS2
      exact ⟨A2, c2, by rw [hv2]; rfl, hS2, HB2.out⟩
  · have HDr2 := Aside.mk (show kFlt.C (fun b => ok b ∧ b < w.heap.size) w (some (ad.add ((i + 1) * 8))) (fs.length - (i + 1)) (fs.drop (i + 1)) by have := HDr.out; rwa [if_neg hc2] at this)
    go_region_law (first | (refine step_append_Own (P := Try.prog) _ (by rfl) kFlt (.const (.slice none 0 0)) (.tmp 7) 24 50 (by rfl) zeroFlt 88 Try.underlying24 info50 rfl (by decide) (ok := fun b => (ok b ∧ b < w.heap.size) ∨ w.heap.size ≤ b) (okp := fun b => ok b ∧ b < w.heap.size) (lo := w.heap.size) (v := .slice none 0 0) (xs := []) (ys := fs.take i) (by rfl) (Own.nil _ _ _ _ _) (A := some ad) (m := i) (c := c) (by rfl) (Kn.C_free (Kn.C_below HT.out (Below.refl _ _).drew)) (fun b hb _ => ⟨.inl hb, by simp [Value.ownBlock]⟩) (fun b hb => .inr hb) (Nat.le_refl _) (by have := HB.out; simp; omega) ?_; intro v1 w1 hO1 hg1 hat1; have hb1 := below_of_grown_none hg1; have hO1' := Aside.mk hO1; have HB1 := Aside.mk (show Below w.heap.size w w1 from Below.trans (Below.refl _ _).drew hb1); clear hO1 hg1 hat1 hb1) | (refine step_append_Own (P := Try.prog) _ (by rfl) kFlt (.tmp 8) (.tmp 12) 24 50 (by rfl) zeroFlt 88 Try.underlying24 info50 rfl (by decide) (ok := fun b => (ok b ∧ b < w.heap.size) ∨ w.heap.size ≤ b) (okp := fun b => ok b ∧ b < w.heap.size) (lo := w.heap.size) (v := v1) (xs := fs.take i) (ys := fs.drop (i + 1)) (by rfl) hO1'.out (A := some (ad.add ((i + 1) * 8))) (m := fs.length - (i + 1)) (c := c - (i + 1)) (by rfl) (Kn.C_free (Kn.C_below (HDr2.out) HB1.out)) (fun b hb _ => ⟨.inl hb, fun e => by have := (hO1'.out.ge b e.symm).1; omega⟩) (fun b hb => .inr (by have := HB1.out.size; omega)) HB1.out.size (by have := HB.out; simp; omega) ?_; intro v2 w2 hO2 hg2 hat2; have hO2' := Aside.mk hO2; have HB2 := Aside.mk (HB1.out.grown hg2 HB1.out.size (fun b hb => (hO1'.out.ge b hb).1)); clear hO2 hg2 hat2))
    all_goals
      go_wp2_with fail
      go_ret
      obtain ⟨A2, c2, hv2, hS2⟩ := hO2'.out.reads (bytes := 88) (by have := HB.out; simp; omega)
      rw [erase_parts] at hv2 hS2
      exact ⟨A2, c2, by rw [hv2]; rfl, hS2, HB2.out⟩
/-- How many are below. -/
def cntI (xs : List Int) (id : Int) : Nat := (xs.filter (fun x => decide (x < id))).length

theorem cntI_le (xs : List Int) (id : Int) : cntI xs id ≤ xs.length := List.length_filter_le _ _
theorem cntI_below {xs : List Int} {k : Nat} {x id : Int} (hx : xs[k]? = some x) (h : x < id) : cntI (xs.take (k + 1)) id = cntI (xs.take k) id + 1 := by
  have hlt := (List.getElem?_eq_some_iff.1 hx).1
  have hv := (List.getElem?_eq_some_iff.1 hx).2
  rw [take_snoc _ _ hlt, hv]
  simp [cntI, h]
theorem cntI_above {xs : List Int} {k : Nat} {x id : Int} (hx : xs[k]? = some x) (h : ¬ x < id) : cntI (xs.take (k + 1)) id = cntI (xs.take k) id := by
  have hlt := (List.getElem?_eq_some_iff.1 hx).1
  have hv := (List.getElem?_eq_some_iff.1 hx).2
  rw [take_snoc _ _ hlt, hv]
  simp [cntI, h]
theorem take_ne {xs : List Int} {k : Nat} {x id : Int} (hx : xs[k]? = some x) (h : ¬ x = id) (hn : id ∉ xs.take k) : id ∉ xs.take (k + 1) := by
  have hlt := (List.getElem?_eq_some_iff.1 hx).1
  have hv := (List.getElem?_eq_some_iff.1 hx).2
  rw [take_snoc _ _ hlt, hv, List.mem_append, List.mem_singleton]
  rintro (h1 | h1)
  · exact hn h1
  · exact h h1.symm

theorem cntI_place {xs : List Int} {id : Int} (hs : xs.Pairwise (· < ·)) (hn : id ∉ xs) : placeT xs id = cntI xs id := by
  unfold placeT placeG cntI
  induction xs with
  | nil => rfl
  | cons x xs ih =>
    have hx : x ≠ id := fun e => hn (by simp [e])
    rw [List.findIdx?_cons]
    by_cases h : id < x
    · rw [if_pos (by simpa using h)]
      show 0 = _
      rw [List.filter_eq_nil_iff.2]
      · rfl
      · intro y hy
        rcases List.mem_cons.1 hy with rfl | hy
        · simp; omega
        · have := (List.pairwise_cons.1 hs).1 y hy
          simp; omega
    · rw [if_neg (by simpa using h)]
      have h2 : x < id := by omega
      have ih' := ih (List.pairwise_cons.1 hs).2 (fun hm => hn (by simp [hm]))
      rw [List.filter_cons, if_pos (by simpa using h2)]
      cases hf : xs.findIdx? (fun x => decide (id < x)) with
      | none => rw [hf] at ih'; simp only [Option.map_none] at ih' ⊢; simp [← ih']
      | some i => rw [hf] at ih'; simp only [Option.map_some] at ih' ⊢; simp [← ih']

/-- What the reference's Take leaves. -/
def Post23 (r : Ses × Bool × Bool) (ok : Nat → Prop) (w : World) (e : Ending) (w' : World) : Prop :=
  ∃ vs, e = .returned (.tuple #[vs, .bool r.2.1, .bool r.2.2]) ∧ IsSesIn (fun b => (ok b ∧ b < w.heap.size) ∨ w.heap.size ≤ b) w' vs r.1 ∧ Below w.heap.size w w'

theorem post23_same {s : Ses} {ok : Nat → Prop} {w wx : World} {A1 : Option Addr} {c1 : Nat} {A2 : Option Addr} {c2 : Nat} {A3 : Option Addr} {c3 : Nat} {A4 : Option Addr} {c4 : Nat} (H : RdSes ok w s A1 c1 A2 c2 A3 c3 A4 c4) (hB : Below w.heap.size w wx) (a : Array Value) (x y : Bool) :
    Post23 (s, x, y) ok w (.returned (.tuple #[.agg (sesCells s A1 c1 A2 c2 A3 c3 A4 c4), .bool x, .bool y])) (wx.setRow (w.heap.size + 1) a) :=
  ⟨_, rfl, ⟨A1, c1, A2, c2, A3, c3, A4, c4, rfl, (((H.mono (ok' := fun b => ok b ∧ b < w.heap.size) (fun b hb hlt => ⟨hb, hlt⟩)).below hB).move (((Kp.refl _ _).put (fun b hb => by have := hb.2; omega) a).2)).mono (fun b hb _ => .inl hb)⟩, below_put hB (by omega) _⟩

/-- A row of one, that lies in a block known whole. -/
theorem Kn.Cf_blk {okp : Nat → Prop} {w : World} {g : Nat} {n : Int} (h : Blk w g 3 #[.int .i64 n]) : kI64.Cf okp w (some ⟨g, 0, none⟩) 1 [n] :=
  ⟨rfl, fun _ => ⟨_, [.int .i64 n], rfl, Reps.one rfl rfl, World.news_of_block (cs := #[.int .i64 n]) (t := 3) (fr := (0, 0)) h⟩⟩
/-- Behind the inserting. -/
structure R23 (s : Ses) (j : Nat) (id : Int) (w : World) (A1 : Option Addr) (c1 : Nat) (A2 : Option Addr) (c2 : Nat) (A3 : Option Addr) (c3 : Nat) (A5 : Option Addr) (c5 : Nat) (ok : Nat → Prop) (wx : World) : Prop where
  b0 : Blk wx w.heap.size 27 #[.string s.cl, .slice A1 s.subs.length c1, .slice A2 s.queue.length c2, .slice A3 s.flight.length c3, .slice A5 (insI s.ids j id).length c5, .int .i64 s.nid, .int .i64 s.hd, .int .i64 s.snt]
  b1 : Blk wx (w.heap.size + 1) 27 zeroSes
  subs : Sl 24 kWant (fun b => ok b ∧ b < w.heap.size) wx A1 c1 s.subs
  queue : Sl 64 kMsg (fun b => ok b ∧ b < w.heap.size) wx A2 c2 s.queue
  flight : Sl 88 kFlt (fun b => ok b ∧ b < w.heap.size) wx A3 c3 s.flight
  ids : Sl 8 kI64 (fun b => w.heap.size + 2 ≤ b) wx A5 c5 (insI s.ids j id)
  below : Below w.heap.size w wx
theorem R23.mk' {s : Ses} {j : Nat} {id : Int} {w wc w3 : World} {A1 : Option Addr} {c1 : Nat} {A2 : Option Addr} {c2 : Nat} {A3 : Option Addr} {c3 : Nat} {A4 : Option Addr} {c4 : Nat} {A5 : Option Addr} {c5 : Nat} {ok : Nat → Prop} (H : RdSes ok w s A1 c1 A2 c2 A3 c3 A4 c4) (hB : Below w.heap.size w wc)
    (h0 : Blk wc w.heap.size 27 (sesCells s A1 c1 A2 c2 A3 c3 A4 c4)) (h1 : Blk wc (w.heap.size + 1) 27 zeroSes) (hb : Below wc.heap.size wc w3) (hS : Sl 8 kI64 (fun b => wc.heap.size ≤ b) w3 A5 c5 (insI s.ids j id)) :
    R23 s j id w A1 c1 A2 c2 A3 c3 A5 c5 ok (w3.setRow w.heap.size #[.string s.cl, .slice A1 s.subs.length c1, .slice A2 s.queue.length c2, .slice A3 s.flight.length c3, .slice A5 (insI s.ids j id).length c5, .int .i64 s.nid, .int .i64 s.hd, .int .i64 s.snt]) := by
  have hl1 := h1.lt
  have hr := (((H.mono (ok' := fun b => ok b ∧ b < w.heap.size) (fun b hb hlt => ⟨hb, hlt⟩)).below hB).below hb).move (((Kp.refl _ _).put (g := w.heap.size) (fun b hb => by have := hb.2; omega) #[.string s.cl, .slice A1 s.subs.length c1, .slice A2 s.queue.length c2, .slice A3 s.flight.length c3, .slice A5 (insI s.ids j id).length c5, .int .i64 s.nid, .int .i64 s.hd, .int .i64 s.snt]).2)
  exact ⟨(h0.belowAll hb).put _, (h1.belowAll hb).other (by omega) _, hr.subs, hr.queue, hr.flight, (hS.kp ((Kp.refl _ _).put (fun b hb => by omega) _)).mono (fun b hb _ => by omega), below_put (below_all hB hB.size hb) (Nat.le_refl _) _⟩
theorem R23.post {s : Ses} {j : Nat} {id : Int} {w wx : World} {A1 : Option Addr} {c1 : Nat} {A2 : Option Addr} {c2 : Nat} {A3 : Option Addr} {c3 : Nat} {A5 : Option Addr} {c5 : Nat} {ok : Nat → Prop} (h : R23 s j id w A1 c1 A2 c2 A3 c3 A5 c5 ok wx) (hP : placeT s.ids id = j) (a : Array Value) :
    Post23 (tookS s id, true, false) ok w (.returned (.tuple #[.agg #[.string s.cl, .slice A1 s.subs.length c1, .slice A2 s.queue.length c2, .slice A3 s.flight.length c3, .slice A5 (insI s.ids j id).length c5, .int .i64 s.nid, .int .i64 s.hd, .int .i64 s.snt], .bool true, .bool false])) (wx.setRow (w.heap.size + 1) a) := by
  have hk : Kp (fun b => ok b ∧ b < w.heap.size) wx (wx.setRow (w.heap.size + 1) a) := (Kp.refl _ _).put (fun b hb => by have := hb.2; omega) _
  have hk2 : Kp (fun b => w.heap.size + 2 ≤ b) wx (wx.setRow (w.heap.size + 1) a) := (Kp.refl _ _).put (fun b hb => by omega) _
  refine ⟨_, rfl, ⟨A1, c1, A2, c2, A3, c3, A5, c5, by simp only [tookS, hP], ?_, ?_, ?_, ?_⟩, below_put h.below (by omega) _⟩
  · exact (h.subs.kp hk).mono (fun b hb _ => .inl hb)
  · exact (h.queue.kp hk).mono (fun b hb _ => .inl hb)
  · exact (h.flight.kp hk).mono (fun b hb _ => .inl hb)
  · show Sl 8 kI64 _ _ A5 c5 (insI s.ids (placeT s.ids id) id)
    rw [hP]
    exact (h.ids.kp hk2).mono (fun b hb _ => .inr (by omega))

set_option maxRecDepth 100000 in
set_option maxHeartbeats 8000000 in
theorem refTake_any (s : Ses) (A1 : Option Addr) (c1 : Nat) (A2 : Option Addr) (c2 : Nat) (A3 : Option Addr) (c3 : Nat) (A4 : Option Addr) (c4 : Nat) (id : Int) (ok : Nat → Prop) (w : World)
    (h : RdSes ok w s A1 c1 A2 c2 A3 c3 A4 c4) (hs : s.ids.Pairwise (· < ·)) :
    Calls Try.prog 23 #[.agg (sesCells s A1 c1 A2 c2 A3 c3 A4 c4), .int .i64 id] w (Post23 (takeD s id) ok w) := by
  have hl4 := h.ids.2.2.1
  have hl4' : s.ids.length ≤ 140737488355328 := by omega
  have H := Aside.mk h
  clear h
  have B0 := Aside.mk ((Blk.new w 27 (sesCells s A1 c1 A2 c2 A3 c3 A4 c4)).alloc (.cells zeroSes 27))
  have B1 := Aside.mk (Blk.newAt (w.alloc (.cells (sesCells s A1 c1 A2 c2 A3 c3 A4 c4) 27)) (w.heap.size + 1) (by simp) 27 zeroSes)
  have HB0 := Aside.mk (show Below w.heap.size w ((w.alloc (.cells (sesCells s A1 c1 A2 c2 A3 c3 A4 c4) 27)).alloc (.cells zeroSes 27)) from ((Below.refl _ _).alloc (Nat.le_refl _) _).alloc (by simp) _)
  simp only [sesCells]
  go_enter Try.func23, Try.ntmps23
  go_upto_region 1 with fail
  go_cut [15] (fun v wx => v = .bool (decide (id < 1) || decide (65535 < id)) ∧ Blk wx w.heap.size 27 (sesCells s A1 c1 A2 c2 A3 c3 A4 c4) ∧ Blk wx (w.heap.size + 1) 27 zeroSes ∧ Below w.heap.size w wx)
  case first =>
    by_cases h0 : id < 1
    · go_wp2_with fail
      go_meet
      exact ⟨by simp [h0], B0.out, B1.out, HB0.out⟩
    · have h0' : 1 ≤ id := by omega
      go_wp2_with fail
      go_meet
      exact ⟨by simp; omega, B0.out, B1.out, HB0.out⟩
  case rest =>
    clear B0 B1 HB0
    obtain ⟨rfl, b0, b1, hB⟩ := hcut
    have B0 := Aside.mk b0; have B1 := Aside.mk b1; have HB0 := Aside.mk hB
    clear b0 b1 hB
    obtain ⟨b0c, b0f, b0s, b0h⟩ := B0.out.all
    obtain ⟨b1c, b1f, b1s, b1h⟩ := B1.out.all
    by_cases h0 : id < 1 ∨ 65535 < id
    · have HT := Aside.mk (show takeD s id = (s, false, false) by unfold takeD; rw [if_pos h0])
      have hd : (decide (id < 1) || decide (65535 < id)) = true := by rcases h0 with h | h <;> simp [h]
      rw [hd]
      go_wp2_with fail
      refine bodyPost_ret (res_ctt rfl _ _ (w.heap.size + 1) 27 _ _ rfl (B1.out.put _) Try.underlying27 rfl (by kernel_rfl)) rfl ?_
      rw [HT.out]
      exact post23_same H.out HB0.out _ _ _
    · have h0' : 1 ≤ id := by omega
      have h1' : id ≤ 65535 := by omega
      have HR := Aside.mk h0
      have hd : (decide (id < 1) || decide (65535 < id)) = false := by simp; omega
      rw [hd]
      clear h0 hd
      go_upto_block 0 with (fail)
      go_cut [7] (fun v wx => v = .int .i64 (cntI s.ids id) ∧ id ∉ s.ids ∧ Aside (Below wc.heap.size wc wx))
      case first =>
        go_wp2_with fail
        go_loopw [7, 20] (fun v i wr => ∃ k : Nat, k ≤ s.ids.length ∧ i = .int .i64 k ∧ v = .int .i64 (cntI (s.ids.take k) id) ∧ id ∉ s.ids.take k ∧ Aside (Below wc.heap.size wc wr)) (fun _ i _ => s.ids.length - (intOf i).toNat)
        case atStart => exact ⟨0, Nat.zero_le _, rfl, by simp [cntI], by simp, ⟨Below.refl _ _⟩⟩
        case round =>
          obtain ⟨k, hk, rfl, rfl, hni, HB⟩ := hrel
          have HNI := Aside.mk hni
          clear hni b0c b0f b0s b0h b1c b1f b1s b1h
          have B0r := Aside.mk (B0.out.belowAll HB.out); have B1r := Aside.mk (B1.out.belowAll HB.out)
          obtain ⟨b0c, b0f, b0s, b0h⟩ := B0r.out.all
          obtain ⟨b1c, b1f, b1s, b1h⟩ := B1r.out.all
          by_cases hlt : k < s.ids.length
          · have hlt' : (k : Int) < (s.ids.length : Int) := by omega
            have hk0 : (0 : Int) ≤ (k : Int) := by omega
            have hx : s.ids[k]? = some s.ids[k] := List.getElem?_eq_getElem hlt
            obtain ⟨ad, rfl, e0⟩ := int_at ((H.out.below HB0.out).below HB.out).ids.2.2.2 hlt hx
            generalize s.ids[k] = x at hx e0
            have HX := Aside.mk hx
            clear hx
            by_cases he : x = id
            · have HT := Aside.mk (show takeD s id = (s, false, false) by unfold takeD; rw [if_neg HR.out, if_pos]; rw [List.contains_iff_mem]; exact he ▸ List.mem_of_getElem? HX.out)
              have he' : (x == id) = true := by simpa using he
              clear he
              go_wp2_with fail

              refine bodyPost_ret (res_ctt rfl _ _ (w.heap.size + 1) 27 _ _ rfl (B1r.out.put _) Try.underlying27 rfl (by kernel_rfl)) rfl ?_
              rw [HT.out]
              exact post23_same H.out (below_all HB0.out HB0.out.size HB.out) _ _ _
            · have he' : (x == id) = false := by simpa using he
              have hni2 := take_ne HX.out he HNI.out
              have HN2 := Aside.mk hni2
              clear hni2 he
              by_cases hl : x < id
              · have HC := Aside.mk (cntI_below HX.out hl)
                have hcl := cntI_le (s.ids.take k) id
                rw [List.length_take] at hcl
                go_wp2_with fail
                go_roundw
                case rel => exact ⟨k + 1, by omega, by go_num, by rw [HC.out]; go_num, HN2.out, HB⟩
                case measure => simp [intOf]; omega
              · have HC := Aside.mk (cntI_above HX.out hl)
                have hl' : id ≤ x := by omega
                have hl'' : ¬ x < id := hl
                go_wp2_with fail
                go_roundw
                case rel => exact ⟨k + 1, by omega, by go_num, by rw [HC.out], HN2.out, HB⟩
                case measure => simp [intOf]; omega
          · have hke : k = s.ids.length := by omega
            have hge : decide (k < s.ids.length) = false := by simp; omega
            subst hke
            go_wp2_with fail
            go_meet
            exact ⟨by rw [List.take_length], by have := HNI.out; rwa [List.take_length] at this, HB⟩
      case rest =>
        obtain ⟨rfl, hni, HB⟩ := hcut
        clear b0c b0f b0s b0h b1c b1f b1s b1h
        have HBW := Aside.mk (below_all HB0.out HB0.out.size HB.out)
        have B0r := Aside.mk (B0.out.belowAll HB.out); have B1r := Aside.mk (B1.out.belowAll HB.out)
        clear HB0 HB B0 B1
        obtain ⟨b0c, b0f, b0s, b0h⟩ := B0r.out.all
        have hnc : s.ids.contains id = false := by
          cases hc : s.ids.contains id with
          | false => rfl
          | true => exact absurd (List.contains_iff_mem.1 hc) hni
        by_cases h64 : 64 ≤ s.ids.length
        · have HT := Aside.mk (show takeD s id = (s, false, true) by unfold takeD; rw [if_neg HR.out, if_neg (by rw [hnc]; decide), if_pos h64])
          obtain ⟨b1c, b1f, b1s, b1h⟩ := B1r.out.all
          have h64' : (64 : Int) ≤ (s.ids.length : Int) := by omega
          clear hnc hni h64
          go_wp2_with fail
          refine bodyPost_ret (res_ctt rfl _ _ (w.heap.size + 1) 27 _ _ rfl (B1r.out.put _) Try.underlying27 rfl (by kernel_rfl)) rfl ?_
          rw [HT.out]
          exact post23_same H.out HBW.out _ _ _
        · have HT := Aside.mk (show takeD s id = (tookS s id, true, false) by unfold takeD; rw [if_neg HR.out, if_neg (by rw [hnc]; decide), if_neg h64])
          have HP := Aside.mk (cntI_place hs hni)
          have h64' : (s.ids.length : Int) < 64 := by omega
          have hcl := cntI_le s.ids id
          clear hnc hni h64 hs
          generalize cntI s.ids id = j at hcl HP ⊢
          have hj0 : (0 : Int) ≤ (j : Int) := by omega
          have hjl : (j : Int) ≤ (s.ids.length : Int) := by omega
          have hcp := H.out.ids.1
          have hjc : (j : Int) ≤ (c4 : Int) := by omega
          have hlc : (s.ids.length : Int) ≤ (c4 : Int) := by omega
          have HTK := Aside.mk (Kn.C_take ((H.out.ids.below HBW.out).2.2.2) j (by omega))
          have HDP0 := Kn.C_drop (c := c4) ((H.out.ids.below HBW.out).2.2.2) j (by omega) hcp
          have hlt0 : w.heap.size < wc.heap.size := B0r.out.lt
          have hne0 : ¬ w.heap.size = wc.heap.size := by omega
          have HLN := Aside.mk (show s.ids.length < 64 by omega)
          have HINS := Aside.mk (show (s.ids.take j ++ [id]) ++ s.ids.drop j = insI s.ids j id by simp [insI])
          go_upto_region 14 with fail
          go_cut [] (fun wx => ∃ A5 c5, Aside (R23 s j id w A1 c1 A2 c2 A3 c3 A5 c5 ok wx))
          case first =>
            by_cases hc2 : c4 = j
            · subst hc2
              have HDP := Aside.mk (show kI64.C ok wc A4 0 (s.ids.drop c4) by rw [List.drop_of_length_le (by omega)]; exact Kn.C_nil _ _ _ _)
              have hll : s.ids.length ≤ c4 := by omega
              clear HDP0
              go_region_law (first | (refine step_append_Own (P := Try.prog) _ (by rfl) kI64 (.const (.slice none 0 0)) (.tmp 42) 25 3 (by rfl) (.int .i64 0) 8 Try.underlying25 info3 rfl (by decide) (ok := fun b => wc.heap.size ≤ b) (okp := fun _ => False) (lo := wc.heap.size) (v := .slice none 0 0) (xs := []) (ys := s.ids.take c4) (by rfl) (Own.nil _ _ _ _ _) (A := A4) (m := c4) (c := c4) (by rfl) (Kn.Cf_scalar (fun _ => False) (Kn.C_below HTK.out ((Below.refl _ _).drew))) (fun b hb _ => hb.elim) (fun b hb => hb) (Nat.le_refl _) (by have := HLN.out; simp; omega) ?_; intro v1 wv hO1 hg1 hat1; have hbv := below_of_grown_none hg1; have HBV := Aside.mk (show Below wc.heap.size wc wv from Below.trans ((Below.refl wc.heap.size wc).drew) (hbv.mono (by simp))); have e0 := B0r.out.belowAll HBV.out; obtain ⟨e0c, e0f, _, _⟩ := e0.all; have hltv : w.heap.size < wv.heap.size := e0.lt; have hnev : ¬ w.heap.size = wv.heap.size := (by omega); have hO1' := Aside.mk hO1; clear hO1 hg1 hat1 hbv e0) | (refine step_append_Own (P := Try.prog) _ (by rfl) kI64 (.const (.slice none 0 0)) (.tmp 42) 25 3 (by rfl) (.int .i64 0) 8 Try.underlying25 info3 rfl (by decide) (ok := fun b => wc.heap.size ≤ b) (okp := fun _ => False) (lo := wc.heap.size) (v := .slice none 0 0) (xs := []) (ys := s.ids.take c4) (by rfl) (Own.nil _ _ _ _ _) (A := A4) (m := c4) (c := c4) (by rfl) (Kn.Cf_scalar (fun _ => False) (Kn.C_below HTK.out (((Below.refl wc.heap.size wc).alloc (Nat.le_refl _) (.cells #[.int .i64 id] 3)).drew))) (fun b hb _ => hb.elim) (fun b hb => (by have hb' := hb; simp at hb'; omega)) (by simp) (by have := HLN.out; simp; omega) ?_; intro v1 wv hO1 hg1 hat1; have hbv := below_of_grown_none hg1; have HBV := Aside.mk (show Below wc.heap.size wc wv from Below.trans (((Below.refl wc.heap.size wc).alloc (Nat.le_refl _) (.cells #[.int .i64 id] 3)).drew) (hbv.mono (by simp))); have e0 := B0r.out.belowAll HBV.out; obtain ⟨e0c, e0f, _, _⟩ := e0.all; have HLT := Aside.mk (Blk.belowAll (show Blk (wc.alloc (.cells #[.int .i64 id] 3)).drew wc.heap.size 3 #[.int .i64 id] from (Blk.new wc 3 #[.int .i64 id]).drew) hbv); have hltv : w.heap.size < wv.heap.size := e0.lt; have hnev : ¬ w.heap.size = wv.heap.size := (by omega); have hO1' := Aside.mk hO1; clear hO1 hg1 hat1 hbv e0) | (refine step_append_Own (P := Try.prog) _ (by rfl) kI64 (.tmp 43) (.tmp 45) 25 3 (by rfl) (.int .i64 0) 8 Try.underlying25 info3 rfl (by decide) (ok := fun b => wc.heap.size ≤ b) (okp := fun _ => False) (lo := wc.heap.size) (v := v1) (xs := s.ids.take c4) (ys := [id]) (by rfl) (hO1'.out.below ((Below.refl _ _).alloc (Nat.le_refl _) _)) (A := some ⟨wv.heap.size, 0, none⟩) (m := 1) (c := 1) (by rfl) (Cf_litAt kI64 (okp := fun _ => False) wv.heap.size rfl [.int .i64 id] 3 rfl) (fun b hb _ => hb.elim) (fun b hb => (by have hb' := hb; have := HBV.out.size; simp at hb'; omega)) (by have := HBV.out.size; simp; omega) (by have := HLN.out; simp; omega) ?_; intro v2 wv2 hO2 hg2 hat2; have HBV2 := Aside.mk (show Below wc.heap.size wc wv2 from Below.grown (HBV.out.alloc HBV.out.size (.cells #[.int .i64 id] 3)) hg2 (by have := HBV.out.size; simp <;> omega) (fun b hb => (hO1'.out.ge b hb).1)); have f0 := B0r.out.belowAll HBV2.out; obtain ⟨f0c, f0f, _, _⟩ := f0.all; have hO2' := Aside.mk hO2; clear hO2 hg2 hat2 f0) | (refine step_append_Own (P := Try.prog) _ (by rfl) kI64 (.tmp 43) (.tmp 45) 25 3 (by rfl) (.int .i64 0) 8 Try.underlying25 info3 rfl (by decide) (ok := fun b => wc.heap.size ≤ b) (okp := fun _ => False) (lo := wc.heap.size) (v := v1) (xs := s.ids.take c4) (ys := [id]) (by rfl) hO1'.out (A := some ⟨wc.heap.size, 0, none⟩) (m := 1) (c := 1) (by rfl) (Kn.Cf_blk HLT.out) (fun b hb _ => hb.elim) (fun b hb => (by have hb' := hb; have := HBV.out.size; omega)) HBV.out.size (by have := HLN.out; simp; omega) ?_; intro v2 wv2 hO2 hg2 hat2; have HBV2 := Aside.mk (show Below wc.heap.size wc wv2 from Below.grown HBV.out hg2 (by have := HBV.out.size; simp <;> omega) (fun b hb => (hO1'.out.ge b hb).1)); have f0 := B0r.out.belowAll HBV2.out; obtain ⟨f0c, f0f, _, _⟩ := f0.all; have hO2' := Aside.mk hO2; clear hO2 hg2 hat2 f0) | (refine step_append_Own (P := Try.prog) _ (by rfl) kI64 (.tmp 46) (.tmp 50) 25 3 (by rfl) (.int .i64 0) 8 Try.underlying25 info3 rfl (by decide) (ok := fun b => wc.heap.size ≤ b) (okp := fun _ => False) (lo := wc.heap.size) (v := v2) (xs := (s.ids.take c4 ++ [id])) (ys := s.ids.drop c4) (by rfl) hO2'.out (A := A4) (m := 0) (c := 0) (by rfl) (Kn.Cf_scalar (fun _ => False) (Kn.C_below HDP.out HBV2.out)) (fun b hb _ => hb.elim) (fun b hb => (by have hb' := hb; have := HBV2.out.size; omega)) HBV2.out.size (by have := HLN.out; simp; omega) ?_; intro v3 w3 hO3 hg3 hat3; have HBV3 := Aside.mk (show Below wc.heap.size wc w3 from HBV2.out.grown hg3 HBV2.out.size (fun b hb => (hO2'.out.ge b hb).1)); obtain ⟨A5, c5, hv3, hSl⟩ := hO3.reads (bytes := 8) (by have := HLN.out; simp; omega); rw [HINS.out] at hv3 hSl; subst hv3; have k0 := B0r.out.belowAll HBV3.out; obtain ⟨k0c, k0f, k0s, k0h⟩ := k0.all; have HN := Aside.mk (R23.mk' H.out HBW.out B0r.out B1r.out HBV3.out hSl); clear hO3 hg3 hat3 k0 hSl))
              all_goals
                go_wp2_with fail
                go_meet
                exact ⟨A5, c5, HN⟩
            · have HDP := Aside.mk (show kI64.C ok wc (Option.map (fun x => x.add j) A4) (s.ids.length - j) (s.ids.drop j) by rw [if_neg hc2] at HDP0; simpa [kI64, Kn.int, Kn.scalar] using HDP0)
              clear HDP0
              go_region_law (first | (refine step_append_Own (P := Try.prog) _ (by rfl) kI64 (.const (.slice none 0 0)) (.tmp 42) 25 3 (by rfl) (.int .i64 0) 8 Try.underlying25 info3 rfl (by decide) (ok := fun b => wc.heap.size ≤ b) (okp := fun _ => False) (lo := wc.heap.size) (v := .slice none 0 0) (xs := []) (ys := s.ids.take j) (by rfl) (Own.nil _ _ _ _ _) (A := A4) (m := j) (c := c4) (by rfl) (Kn.Cf_scalar (fun _ => False) (Kn.C_below HTK.out ((Below.refl _ _).drew))) (fun b hb _ => hb.elim) (fun b hb => hb) (Nat.le_refl _) (by have := HLN.out; simp; omega) ?_; intro v1 wv hO1 hg1 hat1; have hbv := below_of_grown_none hg1; have HBV := Aside.mk (show Below wc.heap.size wc wv from Below.trans ((Below.refl wc.heap.size wc).drew) (hbv.mono (by simp))); have e0 := B0r.out.belowAll HBV.out; obtain ⟨e0c, e0f, _, _⟩ := e0.all; have hltv : w.heap.size < wv.heap.size := e0.lt; have hnev : ¬ w.heap.size = wv.heap.size := (by omega); have hO1' := Aside.mk hO1; clear hO1 hg1 hat1 hbv e0) | (refine step_append_Own (P := Try.prog) _ (by rfl) kI64 (.const (.slice none 0 0)) (.tmp 42) 25 3 (by rfl) (.int .i64 0) 8 Try.underlying25 info3 rfl (by decide) (ok := fun b => wc.heap.size ≤ b) (okp := fun _ => False) (lo := wc.heap.size) (v := .slice none 0 0) (xs := []) (ys := s.ids.take j) (by rfl) (Own.nil _ _ _ _ _) (A := A4) (m := j) (c := c4) (by rfl) (Kn.Cf_scalar (fun _ => False) (Kn.C_below HTK.out (((Below.refl wc.heap.size wc).alloc (Nat.le_refl _) (.cells #[.int .i64 id] 3)).drew))) (fun b hb _ => hb.elim) (fun b hb => (by have hb' := hb; simp at hb'; omega)) (by simp) (by have := HLN.out; simp; omega) ?_; intro v1 wv hO1 hg1 hat1; have hbv := below_of_grown_none hg1; have HBV := Aside.mk (show Below wc.heap.size wc wv from Below.trans (((Below.refl wc.heap.size wc).alloc (Nat.le_refl _) (.cells #[.int .i64 id] 3)).drew) (hbv.mono (by simp))); have e0 := B0r.out.belowAll HBV.out; obtain ⟨e0c, e0f, _, _⟩ := e0.all; have HLT := Aside.mk (Blk.belowAll (show Blk (wc.alloc (.cells #[.int .i64 id] 3)).drew wc.heap.size 3 #[.int .i64 id] from (Blk.new wc 3 #[.int .i64 id]).drew) hbv); have hltv : w.heap.size < wv.heap.size := e0.lt; have hnev : ¬ w.heap.size = wv.heap.size := (by omega); have hO1' := Aside.mk hO1; clear hO1 hg1 hat1 hbv e0) | (refine step_append_Own (P := Try.prog) _ (by rfl) kI64 (.tmp 43) (.tmp 45) 25 3 (by rfl) (.int .i64 0) 8 Try.underlying25 info3 rfl (by decide) (ok := fun b => wc.heap.size ≤ b) (okp := fun _ => False) (lo := wc.heap.size) (v := v1) (xs := s.ids.take j) (ys := [id]) (by rfl) (hO1'.out.below ((Below.refl _ _).alloc (Nat.le_refl _) _)) (A := some ⟨wv.heap.size, 0, none⟩) (m := 1) (c := 1) (by rfl) (Cf_litAt kI64 (okp := fun _ => False) wv.heap.size rfl [.int .i64 id] 3 rfl) (fun b hb _ => hb.elim) (fun b hb => (by have hb' := hb; have := HBV.out.size; simp at hb'; omega)) (by have := HBV.out.size; simp; omega) (by have := HLN.out; simp; omega) ?_; intro v2 wv2 hO2 hg2 hat2; have HBV2 := Aside.mk (show Below wc.heap.size wc wv2 from Below.grown (HBV.out.alloc HBV.out.size (.cells #[.int .i64 id] 3)) hg2 (by have := HBV.out.size; simp <;> omega) (fun b hb => (hO1'.out.ge b hb).1)); have f0 := B0r.out.belowAll HBV2.out; obtain ⟨f0c, f0f, _, _⟩ := f0.all; have hO2' := Aside.mk hO2; clear hO2 hg2 hat2 f0) | (refine step_append_Own (P := Try.prog) _ (by rfl) kI64 (.tmp 43) (.tmp 45) 25 3 (by rfl) (.int .i64 0) 8 Try.underlying25 info3 rfl (by decide) (ok := fun b => wc.heap.size ≤ b) (okp := fun _ => False) (lo := wc.heap.size) (v := v1) (xs := s.ids.take j) (ys := [id]) (by rfl) hO1'.out (A := some ⟨wc.heap.size, 0, none⟩) (m := 1) (c := 1) (by rfl) (Kn.Cf_blk HLT.out) (fun b hb _ => hb.elim) (fun b hb => (by have hb' := hb; have := HBV.out.size; omega)) HBV.out.size (by have := HLN.out; simp; omega) ?_; intro v2 wv2 hO2 hg2 hat2; have HBV2 := Aside.mk (show Below wc.heap.size wc wv2 from Below.grown HBV.out hg2 (by have := HBV.out.size; simp <;> omega) (fun b hb => (hO1'.out.ge b hb).1)); have f0 := B0r.out.belowAll HBV2.out; obtain ⟨f0c, f0f, _, _⟩ := f0.all; have hO2' := Aside.mk hO2; clear hO2 hg2 hat2 f0) | (refine step_append_Own (P := Try.prog) _ (by rfl) kI64 (.tmp 46) (.tmp 50) 25 3 (by rfl) (.int .i64 0) 8 Try.underlying25 info3 rfl (by decide) (ok := fun b => wc.heap.size ≤ b) (okp := fun _ => False) (lo := wc.heap.size) (v := v2) (xs := (s.ids.take j ++ [id])) (ys := s.ids.drop j) (by rfl) hO2'.out (A := Option.map (fun x => x.add j) A4) (m := s.ids.length - j) (c := c4 - j) (by rfl) (Kn.Cf_scalar (fun _ => False) (Kn.C_below HDP.out HBV2.out)) (fun b hb _ => hb.elim) (fun b hb => (by have hb' := hb; have := HBV2.out.size; omega)) HBV2.out.size (by have := HLN.out; simp; omega) ?_; intro v3 w3 hO3 hg3 hat3; have HBV3 := Aside.mk (show Below wc.heap.size wc w3 from HBV2.out.grown hg3 HBV2.out.size (fun b hb => (hO2'.out.ge b hb).1)); obtain ⟨A5, c5, hv3, hSl⟩ := hO3.reads (bytes := 8) (by have := HLN.out; simp; omega); rw [HINS.out] at hv3 hSl; subst hv3; have k0 := B0r.out.belowAll HBV3.out; obtain ⟨k0c, k0f, k0s, k0h⟩ := k0.all; have HN := Aside.mk (R23.mk' H.out HBW.out B0r.out B1r.out HBV3.out hSl); clear hO3 hg3 hat3 k0 hSl))
              all_goals
                go_wp2_with fail
                go_meet
                exact ⟨A5, c5, HN⟩
          case rest =>
            obtain ⟨A5, c5, HR5⟩ := hcut
            clear b0c b0f b0s b0h
            obtain ⟨k0c, k0f, k0s, k0h⟩ := HR5.out.b0.all
            obtain ⟨k1c, k1f, k1s, k1h⟩ := HR5.out.b1.all
            go_wp2_with fail
            refine bodyPost_ret (res_ctt rfl _ _ (w.heap.size + 1) 27 _ _ rfl (HR5.out.b1.put _) Try.underlying27 rfl (by kernel_rfl)) rfl ?_
            rw [HT.out]
            exact HR5.out.post HP.out _
end Go.Proofs.Ytmeeldcgmfplnaa
