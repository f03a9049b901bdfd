/-
  Plain laws and the walk of the law SessionAway.
-/
import Derived.Test.YtmeeldcgmfplnaaW13
import Derived.Test.YtmeeldcgmfplnaaW15
import Derived.Deep.CutBlock
import Derived.Outline
set_option linter.unusedVariables false
set_option linter.unusedSimpArgs false
namespace Go.Proofs.Ytmeeldcgmfplnaa
open Go.RowKit
attribute [local go_sem] setRow_setCell_same setRow_setCell_other setRow_cell_same setRow_cell_other setRow_frozen setRow_shape
attribute [local go_sem ↓] Go.wp_at_zero Go.wp_at_succ

theorem up_small (n : Int) (h0 : 0 ≤ n) (h1 : n < 1000) : up n = n + 1 := by
  unfold up
  rw [if_neg (by omega)]
  unfold wrap64
  omega
theorem nxt_next (fs : List Flt) (nid : Int) (h0 : 0 ≤ nid) (h1 : nid < 65535) (h : ∀ f ∈ fs, f.id ≠ nid + 1) : nxt fs nid = nid + 1 := by
  unfold nxt
  have e : nid % 65536 = nid := Int.emod_eq_of_lt h0 (by omega)
  have e2 : nid % 65535 = nid := Int.emod_eq_of_lt h0 (by omega)
  rw [show (65535 : Nat) = 65534 + 1 from rfl, nxtFrom_succ, e, e2, if_neg]
  intro hm
  obtain ⟨f, hf, hid⟩ := List.mem_map.1 hm
  exact h f hf hid

/-- What a client that is away keeps of some messages. -/
def wantL (l : List Msg) : List Msg := (l.filter (fun m => m.q == 1 || m.q == 2)).take 16
theorem wantL_len (l : List Msg) : (wantL l).length ≤ 16 := by unfold wantL; rw [List.length_take]; omega
theorem wantL_add (l : List Msg) (m : Msg) (hq : m.q = 1 ∨ m.q = 2) (hr : (wantL l).length < 16) : wantL (l ++ [m]) = wantL l ++ [m] := by
  have e : (m.q == 1 || m.q == 2) = true := by simpa using hq
  unfold wantL at hr ⊢
  rw [List.length_take] at hr
  rw [List.filter_append, List.filter_cons, e, if_pos rfl, List.filter_nil, List.take_append]
  rw [show 16 - (List.filter (fun m : Msg => m.q == 1 || m.q == 2) l).length = (15 - (List.filter (fun m : Msg => m.q == 1 || m.q == 2) l).length) + 1 by omega]
  simp
theorem wantL_full (l : List Msg) (m : Msg) (hr : ¬ (wantL l).length < 16) : wantL (l ++ [m]) = wantL l := by
  unfold wantL at hr ⊢
  rw [List.length_take] at hr
  rw [List.filter_append, List.take_append_of_le_length (by omega)]
theorem wantL_not (l : List Msg) (m : Msg) (h1 : m.q ≠ 1) (h2 : m.q ≠ 2) : wantL (l ++ [m]) = wantL l := by
  unfold wantL
  rw [List.filter_append, List.filter_cons, show (m.q == 1 || m.q == 2) = false by simp [h1, h2]]
  simp

def awayS (q : List Msg) : Ses := { ses0 with queue := q }
theorem deliver_away_add (q : List Msg) (m : Msg) (hq : m.q = 1 ∨ m.q = 2) (hr : q.length < 16) : deliverD (awayS q) m false = (awayS (q ++ [m]), [], false) := by
  unfold deliverD
  rw [if_neg (by simp), if_neg (by omega), if_neg (by simp), if_neg (by simp [awayS]; omega)]
  rfl
theorem deliver_away_full (q : List Msg) (m : Msg) (hr : ¬ q.length < 16) : deliverD (awayS q) m false = (awayS q, [], true) := by
  unfold deliverD
  rw [if_neg (by simp)]
  split
  · rfl
  · rw [if_neg (by simp), if_pos (by simp [awayS]; omega)]
theorem deliver_away_not (q : List Msg) (m : Msg) (h1 : m.q ≠ 1) (h2 : m.q ≠ 2) : deliverD (awayS q) m false = (awayS q, [], true) := by
  unfold deliverD
  rw [if_neg (by simp), if_pos ⟨h1, h2⟩]

/-- A queue sent by a session whose ids are as young as it is. -/
theorem refill_young : ∀ (q : List Msg) (s : Ses) (k : Nat), k ≤ 4 → s.flight.length = k → s.nid = k → s.hd = k → s.snt = k → (∀ f ∈ s.flight, f.id ≤ k) →
    (refillFrom q s).2.length = min q.length (4 - k) ∧ (∀ (i : Nat) (m : Msg), i < 4 - k → q[i]? = some m → (refillFrom q s).2[i]? = some (pub m ((k + i + 1 : Nat) : Int) false)) ∧
    (refillFrom q s).1.flight.length = k + min q.length (4 - k) ∧ (refillFrom q s).1.queue.length = q.length - min q.length (4 - k) ∧
    (refillFrom q s).1.hd = ((k + min q.length (4 - k) : Nat) : Int) ∧ (refillFrom q s).1.snt = ((k + min q.length (4 - k) : Nat) : Int)
  | [], s, k, hk, h1, h2, h3, h4, h5 => by simp [refillFrom, h1, h3, h4]
  | m :: q, s, k, hk, h1, h2, h3, h4, h5 => by
    have hn : nxt s.flight s.nid = (k : Int) + 1 := by
      rw [h2]
      exact nxt_next _ _ (by omega) (by omega) (fun f hf => by have := h5 f hf; omega)
    by_cases hlt : k < 4
    · have ih := refill_young q { sendS s m with queue := q, hd := up s.hd } (k + 1) (by omega) (by simp [sendS, h1]) (by simp [sendS, hn]) (by show up s.hd = _; rw [h3, up_small _ (by omega) (by omega)]; simp)
        (by show up s.snt = _; rw [h4, up_small _ (by omega) (by omega)]; simp) (fun f hf => by
          have hf' : f ∈ s.flight ++ [fly m (nxt s.flight s.nid) s.snt] := hf
          rcases List.mem_append.1 hf' with hf | hf
          · have := h5 f hf; omega
          · rw [List.mem_singleton.1 hf]
            show nxt s.flight s.nid ≤ _
            rw [hn]; omega)
      have e : refillFrom (m :: q) s = ((refillFrom q { sendS s m with queue := q, hd := up s.hd }).1, pub m (nxt s.flight s.nid) false :: (refillFrom q { sendS s m with queue := q, hd := up s.hd }).2) := by
        show (if s.flight.length < 4 then _ else _) = _
        rw [if_pos (by omega)]
      generalize refillFrom q { sendS s m with queue := q, hd := up s.hd } = r at *
      obtain ⟨i1, i2, i3, i4, i5, i6⟩ := ih
      rw [e, List.length_cons, List.length_cons]
      have hm : min (q.length + 1) (4 - k) = min q.length (4 - (k + 1)) + 1 := by omega
      refine ⟨by omega, ?_, by show r.1.flight.length = _; omega, by show r.1.queue.length = _; omega, by rw [i5, hm]; congr 1; omega, by rw [i6, hm]; congr 1; omega⟩
      intro i m' hi hm'
      cases i with
      | zero =>
        simp only [List.getElem?_cons_zero, Option.some.injEq] at hm' ⊢
        rw [← hm', hn]
        rfl
      | succ i =>
        simp only [List.getElem?_cons_succ] at hm' ⊢
        rw [i2 i m' (by omega) hm']
        rw [show k + 1 + i + 1 = k + (i + 1) + 1 by omega]
    · have e : refillFrom (m :: q) s = ({ s with queue := m :: q }, []) := by
        show (if s.flight.length < 4 then _ else _) = _
        rw [if_neg (by omega)]
      have hk4 : k = 4 := by omega
      subst hk4
      rw [e]
      simp [h1, h3, h4]

theorem RdSes.after {P : Nat → Prop} {w w1 : World} {s : Ses} {v v1 : Value} {A1 : Option Addr} {c1 : Nat} {A2 : Option Addr} {c2 : Nat} {A3 : Option Addr} {c3 : Nat} {A4 : Option Addr} {c4 : Nat}
    (h : RdSes (fun b => P b ∧ some b ≠ v.ownBlock) w s A1 c1 A2 c2 A3 c3 A4 c4) (hg : w.grownBy w1 v.ownBlock) (hat : v1.ownBlock = v.ownBlock ∨ v1.ownBlock = some w.heap.size) :
    RdSes (fun b => P b ∧ some b ≠ v1.ownBlock) w1 s A1 c1 A2 c2 A3 c3 A4 c4 := ⟨h.subs.after hg hat, h.queue.after hg hat, h.flight.after hg hat, h.ids.after hg hat⟩
theorem RdSes.kp {ok : Nat → Prop} {w w1 : World} {s : Ses} {A1 : Option Addr} {c1 : Nat} {A2 : Option Addr} {c2 : Nat} {A3 : Option Addr} {c3 : Nat} {A4 : Option Addr} {c4 : Nat} (h : RdSes ok w s A1 c1 A2 c2 A3 c3 A4 c4) (k : Kp ok w w1) :
    RdSes ok w1 s A1 c1 A2 c2 A3 c3 A4 c4 := h.move k.2

theorem below_drewN {B : Nat} {w w1 : World} (h : Below B w w1) (n : Nat) : Below B w (w1.drewN n) := ⟨h.os, h.tape, h.output, h.size, h.block⟩
theorem cell_alloc {w : World} {a : Addr} {u : Value} (h : w.cell? a = some u) (o : Obj) : (w.alloc o).cell? a = some u := (World.cell?_alloc_some w a o (by simp [h])).trans h

/-- In the loop: what waits is what is wanted; the session lies apart from the row of what is wanted. -/
structure J4 (q : List Msg) (w : World) (v : Value) (A1 : Option Addr) (c1 : Nat) (A2 : Option Addr) (c2 : Nat) (A3 : Option Addr) (c3 : Nat) (A4 : Option Addr) (c4 : Nat) (wx : World) : Prop where
  b : Blk wx w.heap.size 27 (sesCells (awayS q) A1 c1 A2 c2 A3 c3 A4 c4)
  rd : RdSes (fun b => w.heap.size < b ∧ some b ≠ v.ownBlock) wx (awayS q) A1 c1 A2 c2 A3 c3 A4 c4
  want : Own 30 kMsg (fun b => b ≠ w.heap.size) (w.heap.size + 1) wx v q
  below : Below w.heap.size w wx

section
variable {q q' : List Msg} {w : World} {v v2 : Value} {A1 : Option Addr} {c1 : Nat} {A2 : Option Addr} {c2 : Nat} {A3 : Option Addr} {c3 : Nat} {A4 : Option Addr} {c4 : Nat} {B1 : Option Addr} {d1 : Nat} {B2 : Option Addr} {d2 : Nat} {B3 : Option Addr} {d3 : Nat} {B4 : Option Addr} {d4 : Nat} {wx w1 w2 : World} {o6 o7 o8 : Obj}
theorem J4.far (h : J4 q w v A1 c1 A2 c2 A3 c3 A4 c4 wx) (hb : Below wx.heap.size wx w1) : J4 q w v A1 c1 A2 c2 A3 c3 A4 c4 w1 := ⟨h.b.belowAll hb, h.rd.below hb, h.want.below hb, below_all h.below h.below.size hb⟩
theorem J4.keep (h : J4 q w v A1 c1 A2 c2 A3 c3 A4 c4 wx) (hb : Below (wx.alloc o6).heap.size (wx.alloc o6) w1) (hrd : RdSes (fun b => (wx.alloc o6).heap.size ≤ b) w1 (awayS q) B1 d1 B2 d2 B3 d3 B4 d4) :
    J4 q w v B1 d1 B2 d2 B3 d3 B4 d4 ((w1.alloc o7).setRow w.heap.size (sesCells (awayS q) B1 d1 B2 d2 B3 d3 B4 d4)) := by
  have hlt := h.b.lt
  have hs : (wx.alloc o6).heap.size = wx.heap.size + 1 := by simp
  have hb' : Below wx.heap.size wx (w1.alloc o7) := (Below.trans ((Below.refl _ _).alloc (Nat.le_refl _) _) (hb.mono (by omega))).alloc (by have := hb.size; omega) _
  have h' := h.far hb'
  refine ⟨h'.b.put _, ?_, h'.want.kp ((Kp.refl _ _).put (fun b hb => hb) _), below_put h'.below (Nat.le_refl _) _⟩
  have hw := h.want
  exact (((hrd.mono (ok' := fun b => w.heap.size < b ∧ some b ≠ v.ownBlock) (fun b hb _ => ⟨by omega, fun e => by have := (hw.ge b e.symm).2; omega⟩)).below ((Below.refl _ _).alloc (Nat.le_refl _) _)).kp ((Kp.refl _ _).put (fun b hb => by have := hb.1; omega) _))
theorem J4.add (h : J4 q w v A1 c1 A2 c2 A3 c3 A4 c4 wx) (hb : Below (wx.alloc o6).heap.size (wx.alloc o6) w1) (hrd : RdSes (fun b => (wx.alloc o6).heap.size ≤ b) w1 (awayS q') B1 d1 B2 d2 B3 d3 B4 d4)
    (hO : Own 30 kMsg (fun b => b ≠ w.heap.size) (w.heap.size + 1) w2 v2 q') (hg : ((w1.alloc o7).alloc o8).grownBy w2 v.ownBlock) (hat : v2.ownBlock = v.ownBlock ∨ v2.ownBlock = some ((w1.alloc o7).alloc o8).heap.size) :
    J4 q' w v2 B1 d1 B2 d2 B3 d3 B4 d4 (w2.setRow w.heap.size (sesCells (awayS q') B1 d1 B2 d2 B3 d3 B4 d4)) := by
  have hlt := h.b.lt
  have hs : (wx.alloc o6).heap.size = wx.heap.size + 1 := by simp
  have hb' : Below wx.heap.size wx ((w1.alloc o7).alloc o8) := ((Below.trans ((Below.refl _ _).alloc (Nat.le_refl _) _) (hb.mono (by omega))).alloc (by have := hb.size; omega) _).alloc (by have := hb.size; simp; omega) _
  have h' := h.far hb'
  have hw := h.want
  refine ⟨(h'.b.grown hg (fun e => by have := (hw.ge _ e.symm).1; omega)).put _, ?_, hO.kp ((Kp.refl _ _).put (fun b hb => hb) _), below_put (h'.below.grown hg h'.below.size (fun g hg' => by have := (hw.ge g hg').1; omega)) (Nat.le_refl _) _⟩
  exact ((((hrd.mono (ok' := fun b => w.heap.size < b ∧ some b ≠ v.ownBlock) (fun b hb _ => ⟨by omega, fun e => by have := (hw.ge b e.symm).2; omega⟩)).below (((Below.refl _ _).alloc (Nat.le_refl _) _).alloc (by simp) _)).after hg hat).kp ((Kp.refl _ _).put (fun b hb => by have := hb.1; omega) _))
end

end Go.Proofs.Ytmeeldcgmfplnaa
