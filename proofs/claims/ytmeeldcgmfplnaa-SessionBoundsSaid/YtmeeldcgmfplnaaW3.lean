/-
  Contract: session.own.
-/
import Derived.Test.YtmeeldcgmfplnaaW2
import Derived.Deep.RegionHeld3
import Derived.Deep.DrawnRows
import Derived.Deep.DeepCutAuto
set_option linter.unusedVariables false
set_option linter.unusedSimpArgs false
namespace Go.Proofs.Ytmeeldcgmfplnaa
open Go.RowKit
attribute [local go_sem] setRow_setCell_same setRow_setCell_other setRow_cell_same setRow_cell_other setRow_frozen setRow_shape
attribute [local go_sem ↓] Go.wp_at_zero Go.wp_at_succ

/-- A session in memory of its own: each of its four rows is one, and what they hold lies apart from the rows of messages. -/
structure OwnSes (lo : Nat) (w : World) (s : Ses) (v1 v2 v3 v4 : Value) : Prop where
  subs : Own 81 kWant (fun b => (lo ≤ b ∧ some b ≠ v2.ownBlock) ∧ some b ≠ v3.ownBlock) lo w v1 s.subs
  queue : Own 30 kMsg (fun b => lo ≤ b ∧ some b ≠ v3.ownBlock) lo w v2 s.queue
  flight : Own 50 kFlt (fun b => lo ≤ b ∧ some b ≠ v2.ownBlock) lo w v3 s.flight
  ids : Own 3 kI64 (fun b => (lo ≤ b ∧ some b ≠ v2.ownBlock) ∧ some b ≠ v3.ownBlock) lo w v4 s.ids

abbrev zeroFlt : Value := .agg #[.int .i64 0, .int .i64 0, .int .i64 0, .string ⟨#[]⟩, .slice none 0 0, .int .i64 0, .bool false, .int .i64 0]
theorem info50 : (Try.prog.info? 50).map (fun i => (i.zero, i.size, i.bytes)) = some (some zeroFlt, 8, 88) := by kernel_rfl

/-- The rows of messages, and what they hold, lie apart from the row of ids; so does the row of subscriptions. -/
structure SepSes (lo : Nat) (w : World) (s : Ses) (v1 v2 v3 v4 : Value) : Prop where
  subs : Own 81 kWant (fun b => lo ≤ b ∧ some b ≠ v4.ownBlock) lo w v1 s.subs
  queue : Own 30 kMsg (fun b => lo ≤ b ∧ some b ≠ v4.ownBlock) lo w v2 s.queue
  flight : Own 50 kFlt (fun b => lo ≤ b ∧ some b ≠ v4.ownBlock) lo w v3 s.flight

/-- What own leaves. -/
def Post25 (s : Ses) (w : World) (e : Ending) (w' : World) : Prop :=
  ∃ v1 v2 v3 v4, e = .returned (.agg #[.string s.cl, v1, v2, v3, v4, .int .i64 s.nid, .int .i64 s.hd, .int .i64 s.snt]) ∧ OwnSes w.heap.size w' s v1 v2 v3 v4 ∧ SepSes w.heap.size w' s v1 v2 v3 v4 ∧ Below w.heap.size w w'

/-- The session's own variable while own works: the two clones are in place. -/
abbrev ownVar (s : Ses) (A1 : Option Addr) (c1 : Nat) (A2 : Option Addr) (c2 : Nat) (A3 : Option Addr) (c3 : Nat) (A4 : Option Addr) (c4 : Nat) : Array Value := sesCells s A1 c1 A2 c2 A3 c3 A4 c4
abbrev zeroSes : Array Value := #[.string ⟨#[]⟩, .slice none 0 0, .slice none 0 0, .slice none 0 0, .slice none 0 0, .int .i64 0, .int .i64 0, .int .i64 0]

/-- Behind the first statement. -/
structure R25a (s : Ses) (A2 : Option Addr) (c2 : Nat) (A3 : Option Addr) (c3 : Nat) (w wx : World) (A1 : Option Addr) (c1 : Nat) (A4 : Option Addr) (c4 : Nat) : Prop where
  b1 : Blk wx w.heap.size 27 (ownVar s A1 c1 A2 c2 A3 c3 A4 c4)
  b2 : Blk wx (w.heap.size + 1) 27 zeroSes
  subs : Own 81 kWant (fun b => w.heap.size + 2 ≤ b) (w.heap.size + 2) wx (.slice A1 s.subs.length c1) s.subs
  ids : Own 3 kI64 (fun b => w.heap.size + 2 ≤ b) (w.heap.size + 2) wx (.slice A4 s.ids.length c4) s.ids
  below : Below w.heap.size w wx

/-- In the first loop: so many messages have been copied. -/
structure R25b (s : Ses) (A2 : Option Addr) (c2 : Nat) (A3 : Option Addr) (c3 : Nat) (w : World) (A1 : Option Addr) (c1 : Nat) (A4 : Option Addr) (c4 : Nat) (k : Nat) (v : Value) (wx : World) : Prop where
  b1 : Blk wx w.heap.size 27 (ownVar s A1 c1 A2 c2 A3 c3 A4 c4)
  b2 : Blk wx (w.heap.size + 1) 27 zeroSes
  subs : Own 81 kWant (fun b => w.heap.size + 2 ≤ b ∧ some b ≠ v.ownBlock) (w.heap.size + 2) wx (.slice A1 s.subs.length c1) s.subs
  ids : Own 3 kI64 (fun b => w.heap.size + 2 ≤ b ∧ some b ≠ v.ownBlock) (w.heap.size + 2) wx (.slice A4 s.ids.length c4) s.ids
  queue : Own 30 kMsg (fun b => w.heap.size + 2 ≤ b ∧ some b ≠ (Value.slice A4 s.ids.length c4).ownBlock) (w.heap.size + 2) wx v (s.queue.take k)
  below : Below w.heap.size w wx

theorem R25b.start {s : Ses} {A2 : Option Addr} {c2 : Nat} {A3 : Option Addr} {c3 : Nat} {w wx : World} {A1 : Option Addr} {c1 : Nat} {A4 : Option Addr} {c4 : Nat} (h : R25a s A2 c2 A3 c3 w wx A1 c1 A4 c4) : R25b s A2 c2 A3 c3 w A1 c1 A4 c4 0 (.slice none 0 0) wx :=
  ⟨h.b1, h.b2, h.subs.mono fun b hb _ => ⟨hb, by simp [Value.ownBlock]⟩, h.ids.mono fun b hb _ => ⟨hb, by simp [Value.ownBlock]⟩, by simpa using Own.nil _ _ _ _ _, h.below⟩

theorem own_ne_var {α : Type} {e : TypeId} {d : Kn α} {ok : Nat → Prop} {lo : Nat} {w : World} {v : Value} {xs : List α} (h : Own e d ok lo w v xs) {g : Nat} (hg : g < lo) : some g ≠ v.ownBlock := fun hc => by
  have := (h.ge g hc.symm).1
  omega

theorem R25b.step {s : Ses} {A2 : Option Addr} {c2 : Nat} {A3 : Option Addr} {c3 : Nat} {w : World} {A1 : Option Addr} {c1 : Nat} {A4 : Option Addr} {c4 : Nat} {k : Nat} {v : Value} {wx wl w2 : World} {v2 : Value} {x : Msg}
    (h : R25b s A2 c2 A3 c3 w A1 c1 A4 c4 k v wx) (hb : Below wx.heap.size wx wl) (hx : s.queue[k]? = some x) (hO : Own 30 kMsg (fun b => w.heap.size + 2 ≤ b ∧ some b ≠ (Value.slice A4 s.ids.length c4).ownBlock) (w.heap.size + 2) w2 v2 (s.queue.take k ++ [x]))
    (hg : wl.grownBy w2 v.ownBlock) (hat : v2.ownBlock = v.ownBlock ∨ v2.ownBlock = some wl.heap.size) : R25b s A2 c2 A3 c3 w A1 c1 A4 c4 (k + 1) v2 w2 where
  b1 := (h.b1.belowAll hb).grown hg (own_ne_var h.queue (by omega))
  b2 := (h.b2.belowAll hb).grown hg (own_ne_var h.queue (by omega))
  subs := (h.subs.below hb).after hg hat
  ids := (h.ids.below hb).after hg hat
  queue := by
    have hlt := (List.getElem?_eq_some_iff.1 hx).1
    have hv := (List.getElem?_eq_some_iff.1 hx).2
    rw [take_snoc _ _ hlt, hv]
    exact hO
  below := by
    have h1 := below_all h.below h.below.size hb
    exact h1.grown hg h1.size (fun g hg' => by have := (h.queue.ge g hg').1; omega)

/-- Behind the first loop. -/
structure R25c (s : Ses) (A2 : Option Addr) (c2 : Nat) (A3 : Option Addr) (c3 : Nat) (w : World) (A1 : Option Addr) (c1 : Nat) (A4 : Option Addr) (c4 : Nat) (A2' : Option Addr) (c2' : Nat) (wx : World) : Prop where
  b1 : Blk wx w.heap.size 27 (ownVar s A1 c1 A2 c2 A3 c3 A4 c4)
  b2 : Blk wx (w.heap.size + 1) 27 zeroSes
  subs : Own 81 kWant (fun b => w.heap.size + 2 ≤ b ∧ some b ≠ (Value.slice A2' s.queue.length c2').ownBlock) (w.heap.size + 2) wx (.slice A1 s.subs.length c1) s.subs
  ids : Own 3 kI64 (fun b => w.heap.size + 2 ≤ b ∧ some b ≠ (Value.slice A2' s.queue.length c2').ownBlock) (w.heap.size + 2) wx (.slice A4 s.ids.length c4) s.ids
  queue : Own 30 kMsg (fun b => w.heap.size + 2 ≤ b ∧ some b ≠ (Value.slice A4 s.ids.length c4).ownBlock) (w.heap.size + 2) wx (.slice A2' s.queue.length c2') s.queue
  below : Below w.heap.size w wx

theorem R25b.done {s : Ses} {A2 : Option Addr} {c2 : Nat} {A3 : Option Addr} {c3 : Nat} {w wx : World} {A1 : Option Addr} {c1 : Nat} {A4 : Option Addr} {c4 : Nat} {k : Nat} {v : Value} (h : R25b s A2 c2 A3 c3 w A1 c1 A4 c4 k v wx) (hk : k = s.queue.length)
    (hl : s.queue.length * 64 ≤ 140737488355328) : ∃ A2' c2', v = .slice A2' s.queue.length c2' ∧ R25c s A2 c2 A3 c3 w A1 c1 A4 c4 A2' c2' wx := by
  have hq := h.queue
  rw [hk, List.take_length] at hq
  obtain ⟨A2', c2', rfl, _⟩ := hq.reads hl
  exact ⟨A2', c2', rfl, h.b1, h.b2, h.subs, h.ids, hq, h.below⟩

/-- In the second loop: so many flights have been copied. -/
structure R25d (s : Ses) (A2 : Option Addr) (c2 : Nat) (A3 : Option Addr) (c3 : Nat) (w : World) (A1 : Option Addr) (c1 : Nat) (A4 : Option Addr) (c4 : Nat) (A2' : Option Addr) (c2' : Nat) (k : Nat) (v : Value) (wx : World) : Prop where
  b1 : Blk wx w.heap.size 27 (ownVar s A1 c1 A2 c2 A3 c3 A4 c4)
  b2 : Blk wx (w.heap.size + 1) 27 zeroSes
  subs : Own 81 kWant (fun b => (w.heap.size + 2 ≤ b ∧ some b ≠ (Value.slice A2' s.queue.length c2').ownBlock) ∧ some b ≠ v.ownBlock) (w.heap.size + 2) wx (.slice A1 s.subs.length c1) s.subs
  ids : Own 3 kI64 (fun b => (w.heap.size + 2 ≤ b ∧ some b ≠ (Value.slice A2' s.queue.length c2').ownBlock) ∧ some b ≠ v.ownBlock) (w.heap.size + 2) wx (.slice A4 s.ids.length c4) s.ids
  queue : Own 30 kMsg (fun b => (w.heap.size + 2 ≤ b ∧ some b ≠ (Value.slice A4 s.ids.length c4).ownBlock) ∧ some b ≠ v.ownBlock) (w.heap.size + 2) wx (.slice A2' s.queue.length c2') s.queue
  flight : Own 50 kFlt (fun b => (w.heap.size + 2 ≤ b ∧ some b ≠ (Value.slice A4 s.ids.length c4).ownBlock) ∧ some b ≠ (Value.slice A2' s.queue.length c2').ownBlock) (w.heap.size + 2) wx v (s.flight.take k)
  below : Below w.heap.size w wx

theorem R25c.start {s : Ses} {A2 : Option Addr} {c2 : Nat} {A3 : Option Addr} {c3 : Nat} {w wx : World} {A1 : Option Addr} {c1 : Nat} {A4 : Option Addr} {c4 : Nat} {A2' : Option Addr} {c2' : Nat} (h : R25c s A2 c2 A3 c3 w A1 c1 A4 c4 A2' c2' wx) : R25d s A2 c2 A3 c3 w A1 c1 A4 c4 A2' c2' 0 (.slice none 0 0) wx :=
  ⟨h.b1, h.b2, h.subs.mono fun b hb _ => ⟨hb, by simp [Value.ownBlock]⟩, h.ids.mono fun b hb _ => ⟨hb, by simp [Value.ownBlock]⟩, h.queue.mono fun b hb _ => ⟨hb, by simp [Value.ownBlock]⟩, by simpa using Own.nil _ _ _ _ _, h.below⟩

theorem R25d.step {s : Ses} {A2 : Option Addr} {c2 : Nat} {A3 : Option Addr} {c3 : Nat} {w : World} {A1 : Option Addr} {c1 : Nat} {A4 : Option Addr} {c4 : Nat} {A2' : Option Addr} {c2' : Nat} {k : Nat} {v : Value} {wx wl w2 : World} {v2 : Value} {x : Flt}
    (h : R25d s A2 c2 A3 c3 w A1 c1 A4 c4 A2' c2' k v wx) (hb : Below wx.heap.size wx wl) (hx : s.flight[k]? = some x) (hO : Own 50 kFlt (fun b => (w.heap.size + 2 ≤ b ∧ some b ≠ (Value.slice A4 s.ids.length c4).ownBlock) ∧ some b ≠ (Value.slice A2' s.queue.length c2').ownBlock) (w.heap.size + 2) w2 v2 (s.flight.take k ++ [x]))
    (hg : wl.grownBy w2 v.ownBlock) (hat : v2.ownBlock = v.ownBlock ∨ v2.ownBlock = some wl.heap.size) : R25d s A2 c2 A3 c3 w A1 c1 A4 c4 A2' c2' (k + 1) v2 w2 where
  b1 := (h.b1.belowAll hb).grown hg (own_ne_var h.flight (by omega))
  b2 := (h.b2.belowAll hb).grown hg (own_ne_var h.flight (by omega))
  subs := (h.subs.below hb).after hg hat
  ids := (h.ids.below hb).after hg hat
  queue := (h.queue.below hb).after hg hat
  flight := by
    have hlt := (List.getElem?_eq_some_iff.1 hx).1
    have hv := (List.getElem?_eq_some_iff.1 hx).2
    rw [take_snoc _ _ hlt, hv]
    exact hO
  below := by
    have h1 := below_all h.below h.below.size hb
    exact h1.grown hg h1.size (fun g hg' => by have := (h.flight.ge g hg').1; omega)

/-- Behind the second loop. -/
theorem R25d.done {s : Ses} {A2 : Option Addr} {c2 : Nat} {A3 : Option Addr} {c3 : Nat} {w wx : World} {A1 : Option Addr} {c1 : Nat} {A4 : Option Addr} {c4 : Nat} {A2' : Option Addr} {c2' : Nat} {k : Nat} {v : Value} (h : R25d s A2 c2 A3 c3 w A1 c1 A4 c4 A2' c2' k v wx) (hk : k = s.flight.length)
    (hl : s.flight.length * 88 ≤ 140737488355328) : ∃ A3' c3', v = .slice A3' s.flight.length c3' ∧ Blk wx w.heap.size 27 (ownVar s A1 c1 A2 c2 A3 c3 A4 c4) ∧ Blk wx (w.heap.size + 1) 27 zeroSes ∧
      OwnSes (w.heap.size + 2) wx s (.slice A1 s.subs.length c1) (.slice A2' s.queue.length c2') (.slice A3' s.flight.length c3') (.slice A4 s.ids.length c4) ∧
      SepSes (w.heap.size + 2) wx s (.slice A1 s.subs.length c1) (.slice A2' s.queue.length c2') (.slice A3' s.flight.length c3') (.slice A4 s.ids.length c4) ∧ Below w.heap.size w wx := by
  have hq := h.flight
  rw [hk, List.take_length] at hq
  obtain ⟨A3', c3', rfl, _⟩ := hq.reads hl
  refine ⟨A3', c3', rfl, h.b1, h.b2, ⟨h.subs, h.queue.mono (fun b hb _ => ⟨hb.1.1, hb.2⟩), hq.mono (fun b hb _ => ⟨hb.1.1, hb.2⟩), h.ids⟩, ⟨?_, h.queue.mono (fun b hb _ => hb.1), hq.mono (fun b hb _ => hb.1)⟩, h.below⟩
  have h1 := h.subs.typed; have h4 := h.ids.typed
  obtain ⟨h0, cs, ho, hr⟩ := h.subs
  refine ⟨fun k hk => ⟨(h0 k hk).1.1, fun e => ?_⟩, cs, ho, hr.imp fun x c hx => hx⟩
  obtain ⟨x1, e1⟩ := h1 k hk
  obtain ⟨x4, e4⟩ := h4 k e.symm
  rw [e1] at e4
  injection e4 with e4
  injection e4 with _ e4 _
  exact absurd e4 (by decide)

/-- The session's rows lie apart from the call's own variables. -/
theorem OwnSes.kp {lo lo' : Nat} {w w1 : World} {s : Ses} {v1 v2 v3 v4 : Value} (h : OwnSes lo w s v1 v2 v3 v4) (k : Kp (fun b => lo ≤ b) w w1) (hl : lo' ≤ lo) : OwnSes lo' w1 s v1 v2 v3 v4 :=
  have k' : ∀ {P : Nat → Prop}, (∀ b, P b → lo ≤ b) → Kp P w w1 := fun hP => ⟨k.1, fun b hb hlt => k.2 b (hP b hb) hlt⟩
  ⟨((h.subs.kp (k' fun b hb => hb.1.1)).mono fun b hb _ => ⟨⟨by omega, hb.1.2⟩, hb.2⟩).lower hl, ((h.queue.kp (k' fun b hb => hb.1)).mono fun b hb _ => ⟨by omega, hb.2⟩).lower hl,
    ((h.flight.kp (k' fun b hb => hb.1)).mono fun b hb _ => ⟨by omega, hb.2⟩).lower hl, ((h.ids.kp (k' fun b hb => hb.1.1)).mono fun b hb _ => ⟨⟨by omega, hb.1.2⟩, hb.2⟩).lower hl⟩

theorem SepSes.kp {lo lo' : Nat} {w w1 : World} {s : Ses} {v1 v2 v3 v4 : Value} (h : SepSes lo w s v1 v2 v3 v4) (k : Kp (fun b => lo ≤ b) w w1) (hl : lo' ≤ lo) : SepSes lo' w1 s v1 v2 v3 v4 :=
  have k' : ∀ {P : Nat → Prop}, (∀ b, P b → lo ≤ b) → Kp P w w1 := fun hP => ⟨k.1, fun b hb hlt => k.2 b (hP b hb) hlt⟩
  ⟨((h.subs.kp (k' fun b hb => hb.1)).mono fun b hb _ => ⟨by omega, hb.2⟩).lower hl, ((h.queue.kp (k' fun b hb => hb.1)).mono fun b hb _ => ⟨by omega, hb.2⟩).lower hl, ((h.flight.kp (k' fun b hb => hb.1)).mono fun b hb _ => ⟨by omega, hb.2⟩).lower hl⟩

set_option maxRecDepth 100000 in
set_option maxHeartbeats 2000000 in
attribute [local go_sem] sesCells ownVar zeroSes in
theorem own_any (s : Ses) (A1 : Option Addr) (c1 : Nat) (A2 : Option Addr) (c2 : Nat) (A3 : Option Addr) (c3 : Nat) (A4 : Option Addr) (c4 : Nat) (ok : Nat → Prop) (w : World) (h : RdSes ok w s A1 c1 A2 c2 A3 c3 A4 c4) :
    Calls Try.prog 25 #[.agg (sesCells s A1 c1 A2 c2 A3 c3 A4 c4)] w (Post25 s w) := by
  have hqb : s.queue.length ≤ 140737488355328 := by have := h.queue.2.2.1; omega
  have hfb : s.flight.length ≤ 140737488355328 := by have := h.flight.2.2.1; omega
  have H := Aside.mk h
  clear h
  simp only [sesCells]
  go_enter Try.func25, Try.ntmps25
  go_upto_region 1 with fail
  go_cut [] (fun wx => ∃ A1' c1' A4' c4', R25a s A2 c2 A3 c3 w wx A1' c1' A4' c4')
  case first =>
    go_region_with
      (first
        | (go_at_call 48; refine (cloneW_any s.subs A1 c1 ok _ ?_).mono ?_; (refine Sl.below H.out.subs ?_; repeat (first | exact Below.refl _ _ | refine Below.drew ?_ | (refine Below.alloc ?_ (by simp) _))); rintro e w1 ⟨v1, rfl, hO1, hb1⟩; obtain ⟨A1', c1', rfl, hS1⟩ := hO1.reads (bytes := 24) H.out.subs.2.2.1; have b1 := (((Blk.new w 27 _).alloc _).drew).below hb1 (by simp <;> omega); have b2 := ((Blk.newAt _ (w.heap.size + 1) (by simp) 27 _).drew).below hb1 (by simp <;> omega); obtain ⟨b1c, b1f, b1s, b1h⟩ := b1.all)
        | (go_at_call 49; refine (cloneI_any s.ids A4 c4 ok _ ?_).mono ?_; (refine Sl.below H.out.ids (Below.trans ?_ (hb1.mono ?_)); (repeat (first | exact Below.refl _ _ | refine Below.drew ?_ | (refine Below.alloc ?_ (by simp) _))); (simp; omega)); rintro e w2 ⟨v4, rfl, hO4, hb2⟩; obtain ⟨A4', c4', rfl, hS4⟩ := hO4.reads (bytes := 8) H.out.ids.2.2.1; have d1 := b1.below hb2 b1.lt; have d2 := b2.below hb2 b2.lt; obtain ⟨d1c, d1f, d1s, d1h⟩ := d1.all))
    all_goals
      have hsz : w.heap.size + 2 ≤ w1.heap.size := by have := hb1.size; simp at this; omega
      have R : R25a s A2 c2 A3 c3 w (w2.setRow w.heap.size (ownVar s A1' c1' A2 c2 A3 c3 A4' c4')) A1' c1' A4' c4' := {
        b1 := d1.put _
        b2 := d2.other (by omega) _
        subs := ((((hO1.mono (ok' := fun b => w.heap.size + 2 ≤ b) (fun b hb _ => by simpa using hb)).lower (by simp)).below hb2).kp ((Kp.refl _ _).put (fun b hb => by omega) _))
        ids := (((hO4.mono (ok' := fun b => w.heap.size + 2 ≤ b) (fun b hb _ => by omega)).lower hsz).kp ((Kp.refl _ _).put (fun b hb => by omega) _))
        below := below_put (Below.trans (Below.trans (by repeat (first | exact Below.refl _ _ | refine Below.drew ?_ | (refine Below.alloc ?_ (by simp) _))) (hb1.mono (by simp; omega))) (hb2.mono (by omega))) (by omega) _ }
      have HR := Aside.mk R
      clear R hO1 hO4 hS1 hS4 hb1 hb2 b1 b2 d1 d2 b1c b1f b1s b1h d1c d1f d1s d1h
      go_wp2_with fail
      go_meet
      exact ⟨A1', c1', A4', c4', HR.out⟩
  case rest =>
    obtain ⟨A1', c1', A4', c4', hR⟩ := hcut
    obtain ⟨b1c, b1f, b1s, b1h⟩ := hR.b1.all
    obtain ⟨b2c, b2f, b2s, b2h⟩ := hR.b2.all
    have R := Aside.mk hR
    clear hR
    go_wp2_with fail
    go_loopw [3, 20] (fun v i wr => ∃ k : Nat, k ≤ s.queue.length ∧ i = .int .i64 k ∧ R25b s A2 c2 A3 c3 w A1' c1' A4' c4' k v wr) (fun _ i _ => s.queue.length - (intOf i).toNat)
    case atStart => exact ⟨0, Nat.zero_le _, rfl, R25b.start R.out⟩
    case round =>
      obtain ⟨k, hk, rfl, hR⟩ := hrel
      clear b1c b1f b1s b1h b2c b2f b2s b2h
      by_cases hlt : k < s.queue.length
      · have hlt' : (k : Int) < (s.queue.length : Int) := by omega
        have hk0 : (0 : Int) ≤ (k : Int) := by omega
        have hx : s.queue[k]? = some s.queue[k] := List.getElem?_eq_getElem hlt
        obtain ⟨ad, A', c', rfl, hP, e0, e1, e2, e3, e4⟩ := msg_at (H.out.queue.below hR.below).2.2.2 hlt hx
        generalize hxq : s.queue[k] = x at hx hP e0 e1 e2 e3 e4
        have HX := Aside.mk hx; have HP := Aside.mk hP; have HR := Aside.mk hR
        clear hx hP hR hxq
        go_wp2_with fail
        refine (ownMessage_any x A' c' ok _ ?hS).mono ?_
        case hS => exact HP.out.below ((Below.refl _ _).alloc (Nat.le_refl _) _)
        rintro e w1 ⟨A'', c'', rfl, hP2, hb1⟩
        have HP2 := Aside.mk hP2; have HB1 := Aside.mk hb1
        clear hP2 hb1
        have hs1 : wr.heap.size + 1 ≤ w1.heap.size := by have := HB1.out.size; simp at this; omega
        have hs0 : w.heap.size + 2 ≤ wr.heap.size := by have := HR.out.b2.lt; omega
        have hbl := Aside.mk (show Below wr.heap.size wr (w1.alloc (.cells (msgCells x A'' c'').toArray 30)) from (Below.trans ((Below.refl _ _).alloc (Nat.le_refl _) _) (HB1.out.mono (by simp))).alloc (by omega) _)
        go_wp2_with (at_builtin; go_must (refine wpList_append_Own (P := Try.prog) _ rfl kMsg (.tmp 24) (.tmp 27) 23 30 rfl (.agg #[.string ⟨#[]⟩, .slice none 0 0, .int .i64 0, .bool false, .int .i64 0]) 64 Try.underlying23 info30 rfl (by decide) (ok := fun b => w.heap.size + 2 ≤ b ∧ some b ≠ (Value.slice A4' s.ids.length c4').ownBlock) (okp := fun b => wr.heap.size + 1 ≤ b ∧ b < w1.heap.size ∨ b = w1.heap.size) (lo := w.heap.size + 2) (v := u3) (xs := s.queue.take k) (ys := [x]) rfl ?c0 (A := some ⟨w1.heap.size, 0, none⟩) (m := 1) (c := 1) rfl ?c1 ?c2 ?c3 ?c4 ?c5 ?_))
        case c0 => exact HR.out.queue.below hbl.out
        case c1 => exact Kn.C_free (C_lit kMsg (msgCells x A'' c'') 30 ⟨A'', c'', rfl, HP2.out.mono (fun b hb _ => by simpa using hb)⟩)
        case c2 =>
          have hq := fun g hg => (HR.out.queue.ge g hg).2
          have hq4 := fun g hg => (HR.out.ids.ge g hg).2
          intro b hb _
          refine ⟨⟨by rcases hb with hb | hb <;> omega, fun he => ?_⟩, fun he => ?_⟩
          · have := hq4 b he.symm
            rcases hb with hb | hb <;> omega
          · have := hq b he.symm
            rcases hb with hb | hb <;> omega
        case c3 =>
          have hq4 := fun g hg => (HR.out.ids.ge g hg).2
          exact fun b hb => ⟨by simp at hb; omega, fun he => by have := hq4 b he.symm; simp at hb; omega⟩
        case c4 => simp; omega
        case c5 =>
          have h1 := H.out.queue.2.2.1
          have h2 := List.length_take_le k s.queue
          rw [List.length_singleton, List.length_take]
          omega
        intro v2 w2 hO hg hat
        have HN := Aside.mk (R25b.step HR.out hbl.out HX.out hO hg (by simpa using hat))
        clear hO hg hat hbl e0 e1 e2 e3 e4 HP2 HB1 HP HX HR
        go_wp2_with fail
        go_roundw
        case rel => exact ⟨k + 1, by omega, by go_num, HN.out⟩
        case measure => simp [intOf]; omega
      · have hke : k = s.queue.length := by omega
        have hge : decide (k < s.queue.length) = false := by simp; omega
        obtain ⟨A2', c2', rfl, hC⟩ := hR.done hke H.out.queue.2.2.1
        obtain ⟨b1c, b1f, b1s, b1h⟩ := hC.b1.all
        obtain ⟨b2c, b2f, b2s, b2h⟩ := hC.b2.all
        have HC := Aside.mk hC
        clear hR hC hke hlt hk R
        go_wp2_with fail
        go_loopw [6, 33] (fun v i wr => ∃ k : Nat, k ≤ s.flight.length ∧ i = .int .i64 k ∧ R25d s A2 c2 A3 c3 w A1' c1' A4' c4' A2' c2' k v wr) (fun _ i _ => s.flight.length - (intOf i).toNat)
        case atStart => exact ⟨0, Nat.zero_le _, rfl, R25c.start HC.out⟩
        case round =>
          clear hge b1c b1f b1s b1h b2c b2f b2s b2h HC
          obtain ⟨k, hk, rfl, hR⟩ := hrel
          by_cases hlt : k < s.flight.length
          · have hlt' : (k : Int) < (s.flight.length : Int) := by omega
            have hk0 : (0 : Int) ≤ (k : Int) := by omega
            have hx : s.flight[k]? = some s.flight[k] := List.getElem?_eq_getElem hlt
            obtain ⟨ad, A', c', rfl, hP, hw, e0, e1, e2, e3, e4, e5, e6, e7⟩ := flt_at (H.out.flight.below hR.below).2.2.2 hlt hx
            generalize hxq : s.flight[k] = x at hx hP hw e0 e1 e2 e3 e4 e5 e6 e7
            have HW := Aside.mk hw; clear hw
            have HX := Aside.mk hx; have HP := Aside.mk hP; have HR := Aside.mk hR
            clear hx hP hR hxq
            go_wp2_with fail
            refine (ownMessage_any x.m A' c' ok _ ?hS).mono ?_
            case hS => exact HP.out.below ((Below.refl _ _).alloc (Nat.le_refl _) _)
            rintro e w1 ⟨A'', c'', rfl, hP2, hb1⟩
            have d1 := (Blk.new wr 50 _).below hb1 (by simp)
            obtain ⟨d1c, d1f, d1s, d1h⟩ := d1.all
            have hs1 : wr.heap.size + 1 ≤ w1.heap.size := by have := hb1.size; simp at this; omega
            have hs0 : w.heap.size + 2 ≤ wr.heap.size := by have := HR.out.b2.lt; omega
            have HP2 := Aside.mk (hP2.mono (ok' := fun b => wr.heap.size + 1 ≤ b) (fun b hb _ => by simpa using hb)); have HB1 := Aside.mk (Below.trans ((Below.refl wr.heap.size wr).alloc (Nat.le_refl _) _) (hb1.mono (by simp)))
            clear hP2 hb1 d1
            have hbl := Aside.mk (show Below wr.heap.size wr ((w1.setRow wr.heap.size (fltCells x A'' c'').toArray).alloc (.cells (fltCells x A'' c'').toArray 50)) from (below_put HB1.out (Nat.le_refl _) _).alloc (by simp; omega) _)
            go_wp2_with (at_builtin; go_must (refine wpList_append_Own (P := Try.prog) _ rfl kFlt (.tmp 41) (.tmp 43) 24 50 rfl zeroFlt 88 Try.underlying24 info50 rfl (by decide) (ok := fun b => (w.heap.size + 2 ≤ b ∧ some b ≠ (Value.slice A4' s.ids.length c4').ownBlock) ∧ some b ≠ (Value.slice A2' s.queue.length c2').ownBlock) (okp := fun b => wr.heap.size + 1 ≤ b ∧ b < w1.heap.size ∨ b = w1.heap.size) (lo := w.heap.size + 2) (v := u6) (xs := s.flight.take k) (ys := [x]) rfl ?c0 (A := some ⟨w1.heap.size, 0, none⟩) (m := 1) (c := 1) rfl ?c1 ?c2 ?c3 ?c4 ?c5 ?_))
            case c0 => exact HR.out.flight.below hbl.out
            case c1 => exact Kn.C_free (C_litAt kFlt w1.heap.size (by simp) (fltCells x A'' c'') 50 ⟨A'', c'', rfl, HP2.out.kp ((Kp.refl _ _).put (fun b hb => by omega) _), HW.out⟩)
            case c2 =>
              have hq := fun g hg => (HR.out.flight.ge g hg).2
              have hq2 := fun g hg => (HR.out.queue.ge g hg).2
              have hq4 := fun g hg => (HR.out.ids.ge g hg).2
              intro b hb _
              refine ⟨⟨⟨by rcases hb with hb | hb <;> omega, fun he => ?_⟩, fun he => ?_⟩, fun he => ?_⟩
              · have := hq4 b he.symm
                rcases hb with hb | hb <;> omega
              · have := hq2 b he.symm
                rcases hb with hb | hb <;> omega
              · have := hq b he.symm
                rcases hb with hb | hb <;> omega
            case c3 =>
              have hq2 := fun g hg => (HR.out.queue.ge g hg).2
              have hq4 := fun g hg => (HR.out.ids.ge g hg).2
              intro b hb
              simp at hb
              refine ⟨⟨by omega, fun he => ?_⟩, fun he => ?_⟩
              · have := hq4 b he.symm
                omega
              · have := hq2 b he.symm
                omega
            case c4 => simp; omega
            case c5 =>
              have h1 := H.out.flight.2.2.1
              have h2 := List.length_take_le k s.flight
              rw [List.length_singleton, List.length_take]
              omega
            intro v2 w2 hO hg hat
            have HN := Aside.mk (R25d.step HR.out hbl.out HX.out hO hg (by simpa using hat))
            clear hO hg hat hbl e0 e1 e2 e3 e4 e5 e6 e7 HP2 HB1 HP HX HR d1c d1f d1s d1h
            go_wp2_with fail
            go_roundw
            case rel => exact ⟨k + 1, by omega, by go_num, HN.out⟩
            case measure => simp [intOf]; omega
          · have hke : k = s.flight.length := by omega
            have hge : decide (k < s.flight.length) = false := by simp; omega
            obtain ⟨A3', c3', rfl, hb1, hb2, hO, hSp, hB⟩ := hR.done hke H.out.flight.2.2.1
            obtain ⟨b1c, b1f, b1s, b1h⟩ := hb1.all
            obtain ⟨b2c, b2f, b2s, b2h⟩ := hb2.all
            have HO := Aside.mk hO; have HB := Aside.mk hB; have HB2 := Aside.mk hb2; have HSp := Aside.mk hSp
            clear hR hke hlt hk hO hB hb1 hb2 hSp
            go_wp2
            refine bodyPost_ret (results_cell_row rfl _ _ (w.heap.size + 1) 27 _ (0, 0) _ rfl ((HB2.out.put _).other (by omega) _) Try.underlying27 rfl (by kernel_rfl)) rfl ⟨_, _, _, _, rfl, ?_, ?_, ?_⟩
            · exact HO.out.kp (((Kp.refl _ _).put (fun b hb => by omega) _).put (fun b hb => by omega) _) (by omega)
            · exact HSp.out.kp (((Kp.refl _ _).put (fun b hb => by omega) _).put (fun b hb => by omega) _) (by omega)
            · exact below_put (below_put HB.out (by omega) _) (by omega) _
end Go.Proofs.Ytmeeldcgmfplnaa
