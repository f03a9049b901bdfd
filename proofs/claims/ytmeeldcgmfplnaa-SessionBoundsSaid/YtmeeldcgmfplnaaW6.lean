/-
  Contract: session.Deliver.
-/
import Derived.Test.YtmeeldcgmfplnaaW5
set_option linter.unusedVariables false
set_option linter.unusedSimpArgs false
namespace Go.Proofs.Ytmeeldcgmfplnaa
open Go.RowKit
attribute [local go_sem] setRow_setCell_same setRow_setCell_other setRow_cell_same setRow_cell_other setRow_frozen setRow_shape
attribute [local go_sem ↓] Go.wp_at_zero Go.wp_at_succ

/-! ### Facts on the next id -/
theorem nxtFrom_range : ∀ (k : Nat) (ids : List Int) (i : Int), nxtFrom k ids i = 0 ∨ (1 ≤ nxtFrom k ids i ∧ nxtFrom k ids i ≤ 65535)
  | 0, _, _ => .inl (by rw [nxtFrom])
  | k + 1, ids, i => by
    unfold nxtFrom
    split
    · exact nxtFrom_range k ids _
    · right; omega
theorem nxt_in64 (fs : List Flt) (nid : Int) : In64 (nxt fs nid) := by
  unfold nxt
  rcases nxtFrom_range 65535 (fs.map (·.id)) (nid % 65536) with h | h
  · rw [h]; exact In64.mk (by decide) (by decide)
  · exact In64.mk (by omega) (by omega)

theorem nxtFrom_free (k : Nat) (ids : List Int) (i : Int) (h0 : 0 ≤ i) (h1 : i ≤ 65535) (hl : ids.length < 4) : nxtFrom (k + 1 + 1 + 1 + 1) ids i ≠ 0 := by
  simp only [nxtFrom]
  split
  · rename_i m1
    split
    · rename_i m2
      split
      · rename_i m3
        split
        · rename_i m4
          exfalso
          generalize e1 : i % 65535 + 1 = c1 at *
          generalize e2 : c1 % 65535 + 1 = c2 at *
          generalize e3 : c2 % 65535 + 1 = c3 at *
          generalize e4 : c3 % 65535 + 1 = c4 at *
          have d12 : c1 ≠ c2 := by omega
          have d13 : c1 ≠ c3 := by omega
          have d14 : c1 ≠ c4 := by omega
          have d23 : c2 ≠ c3 := by omega
          have d24 : c2 ≠ c4 := by omega
          have d34 : c3 ≠ c4 := by omega
          clear e1 e2 e3 e4 h0 h1
          match ids, hl with
          | [], _ => simp at m1
          | [a], _ => simp at m1 m2; omega
          | [a, b], _ => simp at m1 m2 m3; omega
          | [a, b, c], _ => simp at m1 m2 m3 m4; omega
          | a :: b :: c :: d :: r, hl => simp at hl; omega
        · omega
      · omega
    · omega
  · omega
theorem nxt_ne (fs : List Flt) (nid : Int) (h : fs.length < 4) : nxt fs nid ≠ 0 := by
  unfold nxt
  exact nxtFrom_free 65531 _ _ (by omega) (by omega) (by simpa using h)



/-! ### What Deliver tells -/
/-- A session that sends a message. -/
def sendS (s : Ses) (m : Msg) : Ses := { s with flight := s.flight ++ [fly m (nxt s.flight s.nid) s.snt], nid := nxt s.flight s.nid, snt := up s.snt }
def deliverD (s : Ses) (m : Msg) (online : Bool) : Ses × List Pkt × Bool :=
  if m.q = 0 ∧ online = true then (s, [pub m 0 false], false)
  else if m.q ≠ 1 ∧ m.q ≠ 2 then (s, [], true)
  else if online = true ∧ s.flight.length < 4 ∧ s.queue.length = 0 then (sendS s m, [pub m (nxt s.flight s.nid) false], false)
  else if 16 ≤ s.queue.length then (s, [], true)
  else ({ s with queue := s.queue ++ [m] }, [], false)

/-- A session value, its rows in blocks that ok allows. -/
def IsSesIn (ok : Nat → Prop) (w : World) (v : Value) (s : Ses) : Prop := ∃ A1 c1 A2 c2 A3 c3 A4 c4, v = .agg (sesCells s A1 c1 A2 c2 A3 c3 A4 c4) ∧ RdSes ok w s A1 c1 A2 c2 A3 c3 A4 c4
/-- A row of packets, in blocks that ok allows. -/
def IsPktsIn (ok : Nat → Prop) (w : World) (v : Value) (l : List Pkt) : Prop := ∃ A c, v = .slice A l.length c ∧ Sl 184 kPkt ok w A c l
theorem IsPktsIn.lit {okp : Nat → Prop} (ok : Nat → Prop) {w : World} {p : Pkt} {A : Option Addr} {c : Nat} (g : Nat) (hg : g = w.heap.size) (h : Sl 1 kU8 okp w A c p.m.p) (h1 : ∀ b, okp b → b < g → ok b) (h2 : ok g) :
    IsPktsIn ok (w.alloc (.cells (pktCells p A c).toArray 43)) (.slice (some ⟨g, 0, none⟩) 1 1) [p] :=
  ⟨_, 1, rfl, by simp, by decide, by simp, Kn.C_mono (fun b hb _ => by
    rcases hb with hb | hb
    · exact h1 b hb.1 hb.2
    · exact hb ▸ h2) (C_litAt kPkt g hg (pktCells p A c) 43 ⟨A, c, rfl, h⟩)⟩

theorem IsSesIn.rd {ok : Nat → Prop} {w : World} {v : Value} {s : Ses} (h : IsSesIn ok w v s) : IsSes w v s := by
  obtain ⟨A1, c1, A2, c2, A3, c3, A4, c4, e, h⟩ := h
  exact ⟨A1, c1, A2, c2, A3, c3, A4, c4, e, h.mono fun _ _ _ => trivial⟩
theorem IsPktsIn.rd {ok : Nat → Prop} {w : World} {v : Value} {l : List Pkt} (h : IsPktsIn ok w v l) : IsPkts w v l := by
  obtain ⟨A, c, e, h⟩ := h
  exact ⟨A, c, e, h.mono fun _ _ _ => trivial⟩

/-- What Deliver leaves: all that it tells lies in new memory. -/
def Post13 (r : Ses × List Pkt × Bool) (w : World) (e : Ending) (w' : World) : Prop :=
  ∃ vs vp, e = .returned (.tuple #[vs, vp, .bool r.2.2]) ∧ IsSesIn (fun b => w.heap.size ≤ b) w' vs r.1 ∧ IsPktsIn (fun b => w.heap.size ≤ b) w' vp r.2.1 ∧ Below w.heap.size w w'
/-- What the reference's Deliver leaves: whatever it reads. -/
def Post14 (r : Ses × List Pkt × Bool) (w : World) (e : Ending) (w' : World) : Prop :=
  ∃ vs vp, e = .returned (.tuple #[vs, vp, .bool r.2.2]) ∧ IsSes w' vs r.1 ∧ IsPkts w' vp r.2.1 ∧ Below w.heap.size w w'

/-- own, with the four rows written out. -/
def Post25' (s : Ses) (w : World) (e : Ending) (w' : World) : Prop :=
  ∃ A1 c1 A2 c2 A3 c3 A4 c4, e = .returned (.agg #[.string s.cl, .slice A1 s.subs.length c1, .slice A2 s.queue.length c2, .slice A3 s.flight.length c3, .slice A4 s.ids.length c4, .int .i64 s.nid, .int .i64 s.hd, .int .i64 s.snt]) ∧
    OwnSes w.heap.size w' s (.slice A1 s.subs.length c1) (.slice A2 s.queue.length c2) (.slice A3 s.flight.length c3) (.slice A4 s.ids.length c4) ∧ Below w.heap.size w w'
theorem own_any' (s : Ses) (A1 : Option Addr) (c1 : Nat) (A2 : Option Addr) (c2 : Nat) (A3 : Option Addr) (c3 : Nat) (A4 : Option Addr) (c4 : Nat) (ok : Nat → Prop) (w : World) (h : RdSes ok w s A1 c1 A2 c2 A3 c3 A4 c4) :
    Calls Try.prog 25 #[.agg #[.string s.cl, .slice A1 s.subs.length c1, .slice A2 s.queue.length c2, .slice A3 s.flight.length c3, .slice A4 s.ids.length c4, .int .i64 s.nid, .int .i64 s.hd, .int .i64 s.snt]] w (Post25' s w) :=
  (own_any s A1 c1 A2 c2 A3 c3 A4 c4 ok w h).mono fun e w' ⟨v1, v2, v3, v4, he, hO, _, hB⟩ => by
    obtain ⟨B1, d1, rfl, _⟩ := hO.subs.reads (bytes := 24) h.subs.2.2.1
    obtain ⟨B2, d2, rfl, _⟩ := hO.queue.reads (bytes := 64) h.queue.2.2.1
    obtain ⟨B3, d3, rfl, _⟩ := hO.flight.reads (bytes := 88) h.flight.2.2.1
    obtain ⟨B4, d4, rfl, _⟩ := hO.ids.reads (bytes := 8) h.ids.2.2.1
    exact ⟨B1, d1, B2, d2, B3, d3, B4, d4, he, hO, hB⟩

/-- own, and how the rows lie to the row of ids. -/
def Post25s (s : Ses) (w : World) (e : Ending) (w' : World) : Prop :=
  ∃ A1 c1 A2 c2 A3 c3 A4 c4, e = .returned (.agg #[.string s.cl, .slice A1 s.subs.length c1, .slice A2 s.queue.length c2, .slice A3 s.flight.length c3, .slice A4 s.ids.length c4, .int .i64 s.nid, .int .i64 s.hd, .int .i64 s.snt]) ∧
    OwnSes w.heap.size w' s (.slice A1 s.subs.length c1) (.slice A2 s.queue.length c2) (.slice A3 s.flight.length c3) (.slice A4 s.ids.length c4) ∧ SepSes w.heap.size w' s (.slice A1 s.subs.length c1) (.slice A2 s.queue.length c2) (.slice A3 s.flight.length c3) (.slice A4 s.ids.length c4) ∧ Below w.heap.size w w'
theorem own_sep (s : Ses) (A1 : Option Addr) (c1 : Nat) (A2 : Option Addr) (c2 : Nat) (A3 : Option Addr) (c3 : Nat) (A4 : Option Addr) (c4 : Nat) (ok : Nat → Prop) (w : World) (h : RdSes ok w s A1 c1 A2 c2 A3 c3 A4 c4) :
    Calls Try.prog 25 #[.agg #[.string s.cl, .slice A1 s.subs.length c1, .slice A2 s.queue.length c2, .slice A3 s.flight.length c3, .slice A4 s.ids.length c4, .int .i64 s.nid, .int .i64 s.hd, .int .i64 s.snt]] w (Post25s s w) :=
  (own_any s A1 c1 A2 c2 A3 c3 A4 c4 ok w h).mono fun e w' ⟨v1, v2, v3, v4, he, hO, hS, hB⟩ => by
    obtain ⟨B1, d1, rfl, _⟩ := hO.subs.reads (bytes := 24) h.subs.2.2.1
    obtain ⟨B2, d2, rfl, _⟩ := hO.queue.reads (bytes := 64) h.queue.2.2.1
    obtain ⟨B3, d3, rfl, _⟩ := hO.flight.reads (bytes := 88) h.flight.2.2.1
    obtain ⟨B4, d4, rfl, _⟩ := hO.ids.reads (bytes := 8) h.ids.2.2.1
    exact ⟨B1, d1, B2, d2, B3, d3, B4, d4, he, hO, hS, hB⟩

/-- A session in memory of its own reads. -/
theorem OwnSes.rd {lo : Nat} {w : World} {s : Ses} {A1 : Option Addr} {c1 : Nat} {A2 : Option Addr} {c2 : Nat} {A3 : Option Addr} {c3 : Nat} {A4 : Option Addr} {c4 : Nat}
    (h : OwnSes lo w s (.slice A1 s.subs.length c1) (.slice A2 s.queue.length c2) (.slice A3 s.flight.length c3) (.slice A4 s.ids.length c4))
    (h1 : s.subs.length * 24 ≤ 140737488355328) (h2 : s.queue.length * 64 ≤ 140737488355328) (h3 : s.flight.length * 88 ≤ 140737488355328) (h4 : s.ids.length * 8 ≤ 140737488355328) :
    RdSes (fun b => lo ≤ b) w s A1 c1 A2 c2 A3 c3 A4 c4 := by
  obtain ⟨B1, d1, e1, s1⟩ := h.subs.reads h1
  obtain ⟨B2, d2, e2, s2⟩ := h.queue.reads h2
  obtain ⟨B3, d3, e3, s3⟩ := h.flight.reads h3
  obtain ⟨B4, d4, e4, s4⟩ := h.ids.reads h4
  injection e1 with e1 _ e1'; injection e2 with e2 _ e2'; injection e3 with e3 _ e3'; injection e4 with e4 _ e4'
  subst e1 e1' e2 e2' e3 e3' e4 e4'
  exact ⟨s1.mono (fun b hb _ => hb.1.1), s2.mono (fun b hb _ => hb.1), s3.mono (fun b hb _ => hb.1), s4.mono (fun b hb _ => hb.1.1)⟩

/-- Behind own in Deliver: the session's variable, the message's, the result's. -/
structure R13 (s : Ses) (m : Msg) (Am : Option Addr) (cm : Nat) (w wx : World) (A1 : Option Addr) (c1 : Nat) (A2 : Option Addr) (c2 : Nat) (A3 : Option Addr) (c3 : Nat) (A4 : Option Addr) (c4 : Nat) : Prop where
  b1 : Blk wx w.heap.size 27 (sesCells s A1 c1 A2 c2 A3 c3 A4 c4)
  b2 : Blk wx (w.heap.size + 1) 30 (msgCells m Am cm).toArray
  b3 : Blk wx (w.heap.size + 2) 27 zeroSes
  own : OwnSes (w.heap.size + 3) wx s (.slice A1 s.subs.length c1) (.slice A2 s.queue.length c2) (.slice A3 s.flight.length c3) (.slice A4 s.ids.length c4)
  below : Below w.heap.size w wx

/-- A row literal of one packet. -/
theorem IsPkts.lit {okp : Nat → Prop} {w : World} {p : Pkt} {A : Option Addr} {c : Nat} (g : Nat) (hg : g = w.heap.size) (h : Sl 1 kU8 okp w A c p.m.p) :
    IsPkts (w.alloc (.cells (pktCells p A c).toArray 43)) (.slice (some ⟨g, 0, none⟩) 1 1) [p] :=
  ⟨_, 1, rfl, by simp, by decide, by simp, Kn.C_mono (fun _ _ _ => trivial) (C_litAt kPkt g hg (pktCells p A c) 43 ⟨A, c, rfl, h⟩)⟩

/-- What stays when the row v3 has been turned to v3'. -/
theorem Own.turned {α : Type} {e : TypeId} {d : Kn α} {P : Nat → Prop} {lo g : Nat} {w w1 : World} {v v3 v3' : Value} {xs : List α} (h : Own e d (fun b => P b ∧ some b ≠ v3.ownBlock) lo w v xs)
    (hT : Turn g v3.ownBlock w w1) (hg : ∀ b, P b → b ≠ g) (hat : AtOrNew v3 v3' w.heap.size) : Own e d (fun b => P b ∧ some b ≠ v3'.ownBlock) lo w1 v xs :=
  have h2 : Own e d (fun b => (P b ∧ some b ≠ v3'.ownBlock) ∧ (P b ∧ some b ≠ v3.ownBlock)) lo w v xs := h.mono fun b hb hlt => ⟨⟨hb.1, hat.ne hb.2 hlt⟩, hb⟩
  (h2.kp (hT.kp fun b hb => ⟨hg b hb.2.1, hb.2.2⟩)).mono fun b hb _ => hb.1
theorem OwnSes.turned {lo g : Nat} {w w1 : World} {s : Ses} {v1 v2 v3 v4 v3' : Value} (h : OwnSes lo w s v1 v2 v3 v4) (hT : Turn g v3.ownBlock w w1) (hg : g < lo) (hat : AtOrNew v3 v3' w.heap.size)
    {fs : List Flt} (hF : Own 50 kFlt (fun b => lo ≤ b ∧ some b ≠ v2.ownBlock) lo w1 v3' fs) (nid snt : Int) : OwnSes lo w1 { s with flight := fs, nid := nid, snt := snt } v1 v2 v3' v4 :=
  ⟨h.subs.turned hT (fun b hb => by have := hb.1; omega) hat, h.queue.turned hT (fun b hb => by omega) hat, hF, h.ids.turned hT (fun b hb => by have := hb.1; omega) hat⟩

/-- Behind send in Deliver. -/
structure R9 (s : Ses) (m : Msg) (w : World) (A1 : Option Addr) (c1 : Nat) (A2 : Option Addr) (c2 : Nat) (A4 : Option Addr) (c4 : Nat) (g : Nat) (Ap : Option Addr) (cp : Nat) (A3 : Option Addr) (c3 : Nat) (wx : World) : Prop where
  b1 : Blk wx w.heap.size 27 #[.string s.cl, .slice A1 s.subs.length c1, .slice A2 s.queue.length c2, .slice A3 (s.flight.length + 1) c3, .slice A4 s.ids.length c4, .int .i64 (nxt s.flight s.nid), .int .i64 s.hd, .int .i64 (up s.snt)]
  b3 : Blk wx (w.heap.size + 2) 27 zeroSes
  bp : Blk wx g 43 (pktCells (pub m (nxt s.flight s.nid) false) Ap cp).toArray
  gp : w.heap.size + 2 < g
  own : OwnSes (w.heap.size + 3) wx (sendS s m) (.slice A1 s.subs.length c1) (.slice A2 s.queue.length c2) (.slice A3 (s.flight.length + 1) c3) (.slice A4 s.ids.length c4)
  pay : Sl 1 kU8 (fun b => w.heap.size + 2 < b) wx Ap cp m.p
  below : Below w.heap.size w wx
theorem R9.rd {s : Ses} {m : Msg} {w : World} {A1 : Option Addr} {c1 : Nat} {A2 : Option Addr} {c2 : Nat} {A4 : Option Addr} {c4 : Nat} {g : Nat} {Ap : Option Addr} {cp : Nat} {A3 : Option Addr} {c3 : Nat} {wx : World}
    (h : R9 s m w A1 c1 A2 c2 A4 c4 g Ap cp A3 c3 wx) (h1 : s.subs.length * 24 ≤ 140737488355328) (h2 : s.queue.length * 64 ≤ 140737488355328) (h3 : s.flight.length < 4) (h4 : s.ids.length * 8 ≤ 140737488355328) :
    RdSes (fun b => w.heap.size + 3 ≤ b) wx (sendS s m) A1 c1 A2 c2 A3 c3 A4 c4 := by
  have e : (sendS s m).flight.length = s.flight.length + 1 := by simp [sendS]
  have h' := h.own
  rw [← e] at h'
  exact OwnSes.rd h' h1 h2 (by rw [e]; omega) h4
theorem drew_cell (w : World) (p : Addr) : w.drew.cell? p = w.cell? p := rfl

theorem OwnSes.turned2 {lo g : Nat} {w w1 : World} {s : Ses} {v1 v2 v3 v4 v2' : Value} (h : OwnSes lo w s v1 v2 v3 v4) (hT : Turn g v2.ownBlock w w1) (hg : g < lo) (hat : AtOrNew v2 v2' w.heap.size)
    {qs : List Msg} (hQ : Own 30 kMsg (fun b => lo ≤ b ∧ some b ≠ v3.ownBlock) lo w1 v2' qs) : OwnSes lo w1 { s with queue := qs } v1 v2' v3 v4 :=
  ⟨((h.subs.mono (ok' := fun b => (lo ≤ b ∧ some b ≠ v3.ownBlock) ∧ some b ≠ v2.ownBlock) (fun b hb _ => ⟨⟨hb.1.1, hb.2⟩, hb.1.2⟩)).turned hT (fun b hb => by have := hb.1; omega) hat).mono (fun b hb _ => ⟨⟨hb.1.1, hb.2⟩, hb.1.2⟩), hQ,
    h.flight.turned hT (fun b hb => by omega) hat,
    ((h.ids.mono (ok' := fun b => (lo ≤ b ∧ some b ≠ v3.ownBlock) ∧ some b ≠ v2.ownBlock) (fun b hb _ => ⟨⟨hb.1.1, hb.2⟩, hb.1.2⟩)).turned hT (fun b hb => by have := hb.1; omega) hat).mono (fun b hb _ => ⟨⟨hb.1.1, hb.2⟩, hb.1.2⟩)⟩

def queueS (s : Ses) (m : Msg) : Ses := { s with queue := s.queue ++ [m] }
/-- Behind the append in Deliver. -/
structure R12 (s : Ses) (m : Msg) (w : World) (A1 : Option Addr) (c1 : Nat) (A3 : Option Addr) (c3 : Nat) (A4 : Option Addr) (c4 : Nat) (A2 : Option Addr) (c2 : Nat) (wx : World) : Prop where
  b1 : Blk wx w.heap.size 27 #[.string s.cl, .slice A1 s.subs.length c1, .slice A2 (s.queue.length + 1) c2, .slice A3 s.flight.length c3, .slice A4 s.ids.length c4, .int .i64 s.nid, .int .i64 s.hd, .int .i64 s.snt]
  b3 : Blk wx (w.heap.size + 2) 27 zeroSes
  own : OwnSes (w.heap.size + 3) wx (queueS s m) (.slice A1 s.subs.length c1) (.slice A2 (s.queue.length + 1) c2) (.slice A3 s.flight.length c3) (.slice A4 s.ids.length c4)
  below : Below w.heap.size w wx
theorem R12.rd {s : Ses} {m : Msg} {w : World} {A1 : Option Addr} {c1 : Nat} {A2 : Option Addr} {c2 : Nat} {A4 : Option Addr} {c4 : Nat} {A3 : Option Addr} {c3 : Nat} {wx : World}
    (h : R12 s m w A1 c1 A3 c3 A4 c4 A2 c2 wx) (h1 : s.subs.length * 24 ≤ 140737488355328) (h2 : s.queue.length < 16) (h3 : s.flight.length * 88 ≤ 140737488355328) (h4 : s.ids.length * 8 ≤ 140737488355328) :
    RdSes (fun b => w.heap.size + 3 ≤ b) wx (queueS s m) A1 c1 A2 c2 A3 c3 A4 c4 := by
  have e : (queueS s m).queue.length = s.queue.length + 1 := by simp [queueS]
  have h' := h.own
  rw [← e] at h'
  exact OwnSes.rd h' h1 (by rw [e]; omega) h3 h4
theorem R12.mk' {s : Ses} {m : Msg} {w wc w1 w' : World} {Am : Option Addr} {cm : Nat} {A1 : Option Addr} {c1 : Nat} {A2 : Option Addr} {c2 : Nat} {A3 : Option Addr} {c3 : Nat} {A4 : Option Addr} {c4 : Nat} {A2s : Option Addr} {c2s : Nat} {o : Obj}
    (hR : R13 s m Am cm w wc A1 c1 A2 c2 A3 c3 A4 c4) (hb1 : Below wc.heap.size wc w1) (hg : (w1.alloc o).grownBy w' (Value.slice A2 s.queue.length c2).ownBlock)
    (hO : Own 30 kMsg (fun b => w.heap.size + 3 ≤ b ∧ some b ≠ (Value.slice A3 s.flight.length c3).ownBlock) (w.heap.size + 3) w' (.slice A2s (s.queue.length + 1) c2s) (s.queue ++ [m]))
    (hat : (Value.slice A2s (s.queue.length + 1) c2s).ownBlock = (Value.slice A2 s.queue.length c2).ownBlock ∨ (Value.slice A2s (s.queue.length + 1) c2s).ownBlock = some (w1.heap.size + 1)) :
    R12 s m w A1 c1 A3 c3 A4 c4 A2s c2s (w'.setRow w.heap.size #[.string s.cl, .slice A1 s.subs.length c1, .slice A2s (s.queue.length + 1) c2s, .slice A3 s.flight.length c3, .slice A4 s.ids.length c4, .int .i64 s.nid, .int .i64 s.hd, .int .i64 s.snt]) := by
  have hsz : w.heap.size + 3 ≤ wc.heap.size := by have := hR.b3.lt; omega
  have hgr : ∀ b, w.heap.size + 3 > b → some b ≠ (Value.slice A2 s.queue.length c2).ownBlock := fun b hb e => by have := (hR.own.queue.ge b e.symm).1; omega
  have hT : Turn w.heap.size (Value.slice A2 s.queue.length c2).ownBlock wc w' := (((Turn.refl _ _ _).below hb1).alloc o).grown hg (.inl rfl)
  have hs1 := hb1.size
  have f0 := ((hR.b1.belowAll hb1).alloc o).grown hg (hgr _ (by omega))
  have f2 := ((hR.b3.belowAll hb1).alloc o).grown hg (hgr _ (by omega))
  refine ⟨f0.put _, f2.other (by omega) _, ?_, ?_⟩
  · exact (hR.own.turned2 hT (by omega) (by
      rcases hat with h | h
      · exact .inl h
      · exact .inr fun b hb => by rw [h] at hb; injection hb with hb; omega) hO).kp ((Kp.refl _ _).put (fun b hb => by omega) _) (Nat.le_refl _)
  · exact below_put (hR.below.trans (hT.toBelow (by omega) (Nat.le_refl _) (fun b hb => by have := (hR.own.queue.ge b hb).1; omega))) (Nat.le_refl _) _
set_option maxRecDepth 100000 in
set_option maxHeartbeats 2000000 in
theorem deliver_bad (s : Ses) (A1 : Option Addr) (c1 : Nat) (A2 : Option Addr) (c2 : Nat) (A3 : Option Addr) (c3 : Nat) (A4 : Option Addr) (c4 : Nat) (m : Msg) (Am : Option Addr) (cm : Nat) (ok okm : Nat → Prop) (w : World)
    (h : RdSes ok w s A1 c1 A2 c2 A3 c3 A4 c4) (hm : Sl 1 kU8 okm w Am cm m.p) (on z : Bool) (hz : (m.q == 0) = z) (hq1 : m.q ≠ 1) (hq2 : m.q ≠ 2) (hq : ¬ (z = true ∧ on = true)) :
    Calls Try.prog 13 #[.agg (sesCells s A1 c1 A2 c2 A3 c3 A4 c4), .agg #[.string m.t, .slice Am m.p.length cm, .int .i64 m.q, .bool m.r, .int .i64 m.u], .bool on] w (Post13 (s, [], true) w) := by
  have hl1 := h.subs.2.2.1; have hl2 := h.queue.2.2.1; have hl3 := h.flight.2.2.1; have hl4 := h.ids.2.2.1
  have H := Aside.mk h; have HM := Aside.mk hm
  clear h hm
  simp only [sesCells]
  go_enter Try.func13, Try.ntmps13
  go_upto_region 1 with fail
  go_cut [] (fun wx => ∃ A1' c1' A2' c2' A3' c3' A4' c4', R13 s m Am cm w wx A1' c1' A2' c2' A3' c3' A4' c4')
  case first =>
    go_wp2_with fail
    refine (own_any' s A1 c1 A2 c2 A3 c3 A4 c4 ok _ ?hS).mono ?_
    case hS => exact H.out.below (by repeat (first | exact Below.refl _ _ | refine Below.drew ?_ | (refine Below.alloc ?_ (by simp <;> omega) _)))
    rintro e w1 ⟨A1', c1', A2', c2', A3', c3', A4', c4', rfl, hO, hb1⟩
    have d0 := (((Blk.new w 27 _).alloc _).alloc _).below hb1 (by simp <;> omega)
    have d1 := ((Blk.newAt _ (w.heap.size + 1) (by simp) 30 _).alloc _).below hb1 (by simp <;> omega)
    have d2 := (Blk.newAt _ (w.heap.size + 2) (by simp) 27 _).below hb1 (by simp <;> omega)
    have hB1 : Below w.heap.size w w1 := Below.trans (by repeat (first | exact Below.refl _ _ | refine Below.drew ?_ | (refine Below.alloc ?_ (by simp <;> omega) _))) (hb1.mono (by simp; omega))
    have HR := Aside.mk (show R13 s m Am cm w (w1.setRow w.heap.size (sesCells s A1' c1' A2' c2' A3' c3' A4' c4')) A1' c1' A2' c2' A3' c3' A4' c4' from
      ⟨d0.put _, d1.other (by omega) _, d2.other (by omega) _, hO.kp ((Kp.refl _ _).put (fun b hb => by simp at hb; omega) _) (by simp), below_put hB1 (Nat.le_refl _) _⟩)
    obtain ⟨d0c, d0f, d0s, d0h⟩ := d0.all
    clear hO hb1 d0 d1 d2 hB1
    go_wp2_with fail
    go_meet
    exact ⟨A1', c1', A2', c2', A3', c3', A4', c4', HR.out⟩
  case rest =>
    obtain ⟨A1', c1', A2', c2', A3', c3', A4', c4', hR⟩ := hcut
    obtain ⟨d0c, d0f, d0s, d0h⟩ := hR.b1.all
    obtain ⟨d1c, d1f, d1s, d1h⟩ := hR.b2.all
    obtain ⟨d2c, d2f, d2s, d2h⟩ := hR.b3.all
    have hsz : w.heap.size + 3 ≤ wc.heap.size := by have := hR.b3.lt; omega
    have HR := Aside.mk hR
    clear hR
    have hb1 : (m.q != 1) = true := by simpa using hq1
    have hb2 : (m.q != 2) = true := by simpa using hq2
    have HQ := Aside.mk hq
    clear hq hq1 hq2
    rcases z with _ | _
    · rcases on with _ | _
      all_goals
        go_wp2_with fail
        refine bodyPost_ret (res_ctt rfl _ _ (w.heap.size + 2) 27 (sesCells s A1' c1' A2' c2' A3' c3' A4' c4') _ rfl (HR.out.b3.put _) Try.underlying27 rfl (by kernel_rfl)) rfl ?_
        refine ⟨_, _, rfl, ⟨A1', c1', A2', c2', A3', c3', A4', c4', rfl, ?_⟩, ⟨none, 0, rfl, Sl.nil _ _ _ _⟩, ?_⟩
        · exact ((HR.out.own.rd hl1 hl2 hl3 hl4).move (Kp.put (Kp.refl _ _) (fun b hb => by omega) _).2).mono (fun b hb _ => by omega)
        · exact below_put HR.out.below (by omega) _
    · rcases on with _ | _
      · go_wp2_with fail
        refine bodyPost_ret (res_ctt rfl _ _ (w.heap.size + 2) 27 (sesCells s A1' c1' A2' c2' A3' c3' A4' c4') _ rfl (HR.out.b3.put _) Try.underlying27 rfl (by kernel_rfl)) rfl ?_
        refine ⟨_, _, rfl, ⟨A1', c1', A2', c2', A3', c3', A4', c4', rfl, ?_⟩, ⟨none, 0, rfl, Sl.nil _ _ _ _⟩, ?_⟩
        · exact ((HR.out.own.rd hl1 hl2 hl3 hl4).move (Kp.put (Kp.refl _ _) (fun b hb => by omega) _).2).mono (fun b hb _ => by omega)
        · exact below_put HR.out.below (by omega) _
      · exact absurd ⟨rfl, rfl⟩ HQ.out
set_option maxRecDepth 100000 in
set_option maxHeartbeats 2000000 in
theorem deliver_full (s : Ses) (A1 : Option Addr) (c1 : Nat) (A2 : Option Addr) (c2 : Nat) (A3 : Option Addr) (c3 : Nat) (A4 : Option Addr) (c4 : Nat) (m : Msg) (Am : Option Addr) (cm : Nat) (ok okm : Nat → Prop) (w : World)
    (h : RdSes ok w s A1 c1 A2 c2 A3 c3 A4 c4) (hm : Sl 1 kU8 okm w Am cm m.p) (on : Bool) (hq : m.q = 1 ∨ m.q = 2) (hn : 16 ≤ s.queue.length) :
    Calls Try.prog 13 #[.agg (sesCells s A1 c1 A2 c2 A3 c3 A4 c4), .agg #[.string m.t, .slice Am m.p.length cm, .int .i64 m.q, .bool m.r, .int .i64 m.u], .bool on] w (Post13 (s, [], true) w) := by
  have hl1 := h.subs.2.2.1; have hl2 := h.queue.2.2.1; have hl3 := h.flight.2.2.1; have hl4 := h.ids.2.2.1
  have H := Aside.mk h; have HM := Aside.mk hm
  clear h hm
  simp only [sesCells]
  go_enter Try.func13, Try.ntmps13
  go_upto_region 1 with fail
  go_cut [] (fun wx => ∃ A1' c1' A2' c2' A3' c3' A4' c4', R13 s m Am cm w wx A1' c1' A2' c2' A3' c3' A4' c4')
  case first =>
    go_wp2_with fail
    refine (own_any' s A1 c1 A2 c2 A3 c3 A4 c4 ok _ ?hS).mono ?_
    case hS => exact H.out.below (by repeat (first | exact Below.refl _ _ | refine Below.drew ?_ | (refine Below.alloc ?_ (by simp <;> omega) _)))
    rintro e w1 ⟨A1', c1', A2', c2', A3', c3', A4', c4', rfl, hO, hb1⟩
    have d0 := (((Blk.new w 27 _).alloc _).alloc _).below hb1 (by simp <;> omega)
    have d1 := ((Blk.newAt _ (w.heap.size + 1) (by simp) 30 _).alloc _).below hb1 (by simp <;> omega)
    have d2 := (Blk.newAt _ (w.heap.size + 2) (by simp) 27 _).below hb1 (by simp <;> omega)
    have hB1 : Below w.heap.size w w1 := Below.trans (by repeat (first | exact Below.refl _ _ | refine Below.drew ?_ | (refine Below.alloc ?_ (by simp <;> omega) _))) (hb1.mono (by simp; omega))
    have HR := Aside.mk (show R13 s m Am cm w (w1.setRow w.heap.size (sesCells s A1' c1' A2' c2' A3' c3' A4' c4')) A1' c1' A2' c2' A3' c3' A4' c4' from
      ⟨d0.put _, d1.other (by omega) _, d2.other (by omega) _, hO.kp ((Kp.refl _ _).put (fun b hb => by simp at hb; omega) _) (by simp), below_put hB1 (Nat.le_refl _) _⟩)
    obtain ⟨d0c, d0f, d0s, d0h⟩ := d0.all
    clear hO hb1 d0 d1 d2 hB1
    go_wp2_with fail
    go_meet
    exact ⟨A1', c1', A2', c2', A3', c3', A4', c4', HR.out⟩
  case rest =>
    obtain ⟨A1', c1', A2', c2', A3', c3', A4', c4', hR⟩ := hcut
    obtain ⟨d0c, d0f, d0s, d0h⟩ := hR.b1.all
    obtain ⟨d1c, d1f, d1s, d1h⟩ := hR.b2.all
    obtain ⟨d2c, d2f, d2s, d2h⟩ := hR.b3.all
    have hsz : w.heap.size + 3 ≤ wc.heap.size := by have := hR.b3.lt; omega
    have HR := Aside.mk hR
    clear hR
    have hl3' : s.flight.length ≤ 140737488355328 := by omega
    have hl2' : s.queue.length ≤ 140737488355328 := by omega
    have hb0 : (m.q == 0) = false := by rcases hq with hq | hq <;> simp [hq]
    have HQ := Aside.mk hq
    clear hq
    cases hb1 : (m.q != 1)
    rotate_left 1
    have hb2 : (m.q != 2) = false := by
      rcases HQ.out with hq | hq
      · simp [hq] at hb1
      · simp [hq]
    rotate_left 1
    all_goals
      have hn2 : ((s.queue.length : Int) == 0) = false := beq_false_of_ne (by omega)
      have hn4 : (16 : Int) ≤ (s.queue.length : Int) := by omega
      rcases on with _ | _
      · go_wp2_with fail
        refine bodyPost_ret (res_ctt rfl _ _ (w.heap.size + 2) 27 (sesCells s A1' c1' A2' c2' A3' c3' A4' c4') _ rfl (HR.out.b3.put _) Try.underlying27 rfl (by kernel_rfl)) rfl ?_
        refine ⟨_, _, rfl, ⟨A1', c1', A2', c2', A3', c3', A4', c4', rfl, ?_⟩, ⟨none, 0, rfl, Sl.nil _ _ _ _⟩, ?_⟩
        · exact ((HR.out.own.rd hl1 hl2 hl3 hl4).move (Kp.put (Kp.refl _ _) (fun b hb => by omega) _).2).mono (fun b hb _ => by omega)
        · exact below_put HR.out.below (by omega) _
      · by_cases hf : (s.flight.length : Int) < 4
        · go_wp2_with fail
          refine bodyPost_ret (res_ctt rfl _ _ (w.heap.size + 2) 27 (sesCells s A1' c1' A2' c2' A3' c3' A4' c4') _ rfl (HR.out.b3.put _) Try.underlying27 rfl (by kernel_rfl)) rfl ?_
          refine ⟨_, _, rfl, ⟨A1', c1', A2', c2', A3', c3', A4', c4', rfl, ?_⟩, ⟨none, 0, rfl, Sl.nil _ _ _ _⟩, ?_⟩
          · exact ((HR.out.own.rd hl1 hl2 hl3 hl4).move (Kp.put (Kp.refl _ _) (fun b hb => by omega) _).2).mono (fun b hb _ => by omega)
          · exact below_put HR.out.below (by omega) _
        · go_wp2_with fail
          refine bodyPost_ret (res_ctt rfl _ _ (w.heap.size + 2) 27 (sesCells s A1' c1' A2' c2' A3' c3' A4' c4') _ rfl (HR.out.b3.put _) Try.underlying27 rfl (by kernel_rfl)) rfl ?_
          refine ⟨_, _, rfl, ⟨A1', c1', A2', c2', A3', c3', A4', c4', rfl, ?_⟩, ⟨none, 0, rfl, Sl.nil _ _ _ _⟩, ?_⟩
          · exact ((HR.out.own.rd hl1 hl2 hl3 hl4).move (Kp.put (Kp.refl _ _) (fun b hb => by omega) _).2).mono (fun b hb _ => by omega)
          · exact below_put HR.out.below (by omega) _
set_option maxRecDepth 100000 in
set_option maxHeartbeats 2000000 in
theorem deliver_q0 (s : Ses) (A1 : Option Addr) (c1 : Nat) (A2 : Option Addr) (c2 : Nat) (A3 : Option Addr) (c3 : Nat) (A4 : Option Addr) (c4 : Nat) (m : Msg) (Am : Option Addr) (cm : Nat) (ok okm : Nat → Prop) (w : World)
    (h : RdSes ok w s A1 c1 A2 c2 A3 c3 A4 c4) (hm : Sl 1 kU8 okm w Am cm m.p) (hq0 : (m.q == 0) = true) :
    Calls Try.prog 13 #[.agg (sesCells s A1 c1 A2 c2 A3 c3 A4 c4), .agg #[.string m.t, .slice Am m.p.length cm, .int .i64 m.q, .bool m.r, .int .i64 m.u], .bool true] w (Post13 (s, [pub m 0 false], false) w) := by
  have hl1 := h.subs.2.2.1; have hl2 := h.queue.2.2.1; have hl3 := h.flight.2.2.1; have hl4 := h.ids.2.2.1
  have H := Aside.mk h; have HM := Aside.mk hm
  clear h hm
  simp only [sesCells]
  go_enter Try.func13, Try.ntmps13
  go_upto_region 1 with fail
  go_cut [] (fun wx => ∃ A1' c1' A2' c2' A3' c3' A4' c4', R13 s m Am cm w wx A1' c1' A2' c2' A3' c3' A4' c4')
  case first =>
    go_wp2_with fail
    refine (own_any' s A1 c1 A2 c2 A3 c3 A4 c4 ok _ ?hS).mono ?_
    case hS => exact H.out.below (by repeat (first | exact Below.refl _ _ | refine Below.drew ?_ | (refine Below.alloc ?_ (by simp <;> omega) _)))
    rintro e w1 ⟨A1', c1', A2', c2', A3', c3', A4', c4', rfl, hO, hb1⟩
    have d0 := (((Blk.new w 27 _).alloc _).alloc _).below hb1 (by simp <;> omega)
    have d1 := ((Blk.newAt _ (w.heap.size + 1) (by simp) 30 _).alloc _).below hb1 (by simp <;> omega)
    have d2 := (Blk.newAt _ (w.heap.size + 2) (by simp) 27 _).below hb1 (by simp <;> omega)
    have hB1 : Below w.heap.size w w1 := Below.trans (by repeat (first | exact Below.refl _ _ | refine Below.drew ?_ | (refine Below.alloc ?_ (by simp <;> omega) _))) (hb1.mono (by simp; omega))
    have HR := Aside.mk (show R13 s m Am cm w (w1.setRow w.heap.size (sesCells s A1' c1' A2' c2' A3' c3' A4' c4')) A1' c1' A2' c2' A3' c3' A4' c4' from
      ⟨d0.put _, d1.other (by omega) _, d2.other (by omega) _, hO.kp ((Kp.refl _ _).put (fun b hb => by simp at hb; omega) _) (by simp), below_put hB1 (Nat.le_refl _) _⟩)
    obtain ⟨d0c, d0f, d0s, d0h⟩ := d0.all
    clear hO hb1 d0 d1 d2 hB1
    go_wp2_with fail
    go_meet
    exact ⟨A1', c1', A2', c2', A3', c3', A4', c4', HR.out⟩
  case rest =>
    obtain ⟨A1', c1', A2', c2', A3', c3', A4', c4', hR⟩ := hcut
    obtain ⟨d0c, d0f, d0s, d0h⟩ := hR.b1.all
    obtain ⟨d1c, d1f, d1s, d1h⟩ := hR.b2.all
    obtain ⟨d2c, d2f, d2s, d2h⟩ := hR.b3.all
    have hsz : w.heap.size + 3 ≤ wc.heap.size := by have := hR.b3.lt; omega
    have HR := Aside.mk hR
    clear hR
    go_wp2_with fail
    go_region_held3 (fun w' => w'.cell? ⟨w.heap.size, 0, none⟩ = some (.string s.cl) ∧ w'.cell? ⟨w.heap.size, 1, none⟩ = some (.slice A1' s.subs.length c1') ∧ w'.cell? ⟨w.heap.size, 2, none⟩ = some (.slice A2' s.queue.length c2') ∧ w'.cell? ⟨w.heap.size, 3, none⟩ = some (.slice A3' s.flight.length c3') ∧ w'.cell? ⟨w.heap.size, 4, none⟩ = some (.slice A4' s.ids.length c4') ∧ w'.cell? ⟨w.heap.size, 5, none⟩ = some (.int .i64 s.nid) ∧ w'.cell? ⟨w.heap.size, 6, none⟩ = some (.int .i64 s.hd) ∧ w'.cell? ⟨w.heap.size, 7, none⟩ = some (.int .i64 s.snt) ∧ w'.cell? ⟨w.heap.size + 1, 0, none⟩ = some (.string m.t) ∧ w'.cell? ⟨w.heap.size + 1, 1, none⟩ = some (.slice Am m.p.length cm) ∧ w'.cell? ⟨w.heap.size + 1, 2, none⟩ = some (.int .i64 m.q) ∧ w'.cell? ⟨w.heap.size + 1, 3, none⟩ = some (.bool m.r) ∧ w'.cell? ⟨w.heap.size + 1, 4, none⟩ = some (.int .i64 m.u)) (first | go_keep | simp [go_sem, setRow_cell_other, *])
      (first | (go_at_call 26; refine (publish_any m Am cm okm 0 false _ ?hSS).mono ?_; (case hSS => exact HM.out.below (HR.out.below.trans (Below.refl _ _).drew)); rintro e w1 ⟨Ap, cp, rfl, hP, hb1⟩; have e0 := (HR.out.b1.drew).belowAll hb1; have e1 := (HR.out.b2.drew).belowAll hb1; have e2 := (HR.out.b3.drew).belowAll hb1; obtain ⟨e0c, e0f, e0s, e0h⟩ := e0.all; obtain ⟨e1c, e1f, e1s, e1h⟩ := e1.all; obtain ⟨e2c, e2f, e2s, e2h⟩ := e2.all; have hlt1 : w.heap.size + 2 < w1.heap.size := e2.lt; have hlt2 : w.heap.size + 1 < w1.heap.size := (by omega); have hlt3 : w.heap.size < w1.heap.size := (by omega); have hne1 : ¬ w.heap.size + 2 = w1.heap.size := (by omega); have hne2 : ¬ w.heap.size + 1 = w1.heap.size := (by omega); have hne3 : ¬ w.heap.size = w1.heap.size := (by omega)))
    go_goals
    all_goals
      go_wp2_with fail
      have hbw : Below wc.heap.size wc w1 := Below.trans ((Below.refl wc.heap.size wc).drew) hb1
      refine bodyPost_ret (res_ctt rfl _ _ (w.heap.size + 2) 27 (sesCells s A1' c1' A2' c2' A3' c3' A4' c4') _ rfl ((e2.put _).alloc _) Try.underlying27 rfl (by kernel_rfl)) rfl ?_
      refine ⟨_, _, rfl, ⟨A1', c1', A2', c2', A3', c3', A4', c4', rfl, ?_⟩, IsPktsIn.lit _ w1.heap.size (by simp) (p := pub m 0 false) (hP.kp (Kp.put (Kp.refl _ _) (fun b hb => by simp at hb; omega) _)) (fun b hb _ => by simp at hb; omega) (by omega), ?_⟩
      · exact (((HR.out.own.rd hl1 hl2 hl3 hl4).below hbw).move (Kp.alloc (Kp.put (Kp.refl _ _) (fun b hb => by omega) _) _).2).mono (fun b hb _ => by omega)
      · exact (below_put (HR.out.below.trans (hbw.mono (by omega))) (by omega) _).alloc (by simp; omega) _
set_option maxRecDepth 100000 in
set_option maxHeartbeats 2000000 in
theorem deliver_queue (s : Ses) (A1 : Option Addr) (c1 : Nat) (A2 : Option Addr) (c2 : Nat) (A3 : Option Addr) (c3 : Nat) (A4 : Option Addr) (c4 : Nat) (m : Msg) (Am : Option Addr) (cm : Nat) (ok okm : Nat → Prop) (w : World)
    (h : RdSes ok w s A1 c1 A2 c2 A3 c3 A4 c4) (hm : Sl 1 kU8 okm w Am cm m.p) (on : Bool) (hq : m.q = 1 ∨ m.q = 2) (hn : s.queue.length < 16) (hc : ¬ (on = true ∧ s.flight.length < 4 ∧ s.queue.length = 0)) :
    Calls Try.prog 13 #[.agg (sesCells s A1 c1 A2 c2 A3 c3 A4 c4), .agg #[.string m.t, .slice Am m.p.length cm, .int .i64 m.q, .bool m.r, .int .i64 m.u], .bool on] w (Post13 (queueS s m, [], false) w) := by
  have hl1 := h.subs.2.2.1; have hl2 := h.queue.2.2.1; have hl3 := h.flight.2.2.1; have hl4 := h.ids.2.2.1
  have H := Aside.mk h; have HM := Aside.mk hm
  clear h hm
  have HN := Aside.mk hn; have HQ := Aside.mk hq; have HC := Aside.mk hc
  have hb0 : (m.q == 0) = false := by rcases hq with hq | hq <;> simp [hq]
  clear hn hq hc
  simp only [sesCells]
  go_enter Try.func13, Try.ntmps13
  go_upto_region 1 with fail
  go_cut [] (fun wx => ∃ A1' c1' A2' c2' A3' c3' A4' c4', R13 s m Am cm w wx A1' c1' A2' c2' A3' c3' A4' c4')
  case first =>
    go_wp2_with fail
    refine (own_any' s A1 c1 A2 c2 A3 c3 A4 c4 ok _ ?hS).mono ?_
    case hS => exact H.out.below (by repeat (first | exact Below.refl _ _ | refine Below.drew ?_ | (refine Below.alloc ?_ (by simp <;> omega) _)))
    rintro e w1 ⟨A1', c1', A2', c2', A3', c3', A4', c4', rfl, hO, hb1⟩
    have d0 := (((Blk.new w 27 _).alloc _).alloc _).below hb1 (by simp <;> omega)
    have d1 := ((Blk.newAt _ (w.heap.size + 1) (by simp) 30 _).alloc _).below hb1 (by simp <;> omega)
    have d2 := (Blk.newAt _ (w.heap.size + 2) (by simp) 27 _).below hb1 (by simp <;> omega)
    have hB1 : Below w.heap.size w w1 := Below.trans (by repeat (first | exact Below.refl _ _ | refine Below.drew ?_ | (refine Below.alloc ?_ (by simp <;> omega) _))) (hb1.mono (by simp; omega))
    have HR := Aside.mk (show R13 s m Am cm w (w1.setRow w.heap.size (sesCells s A1' c1' A2' c2' A3' c3' A4' c4')) A1' c1' A2' c2' A3' c3' A4' c4' from
      ⟨d0.put _, d1.other (by omega) _, d2.other (by omega) _, hO.kp ((Kp.refl _ _).put (fun b hb => by simp at hb; omega) _) (by simp), below_put hB1 (Nat.le_refl _) _⟩)
    obtain ⟨d0c, d0f, d0s, d0h⟩ := d0.all
    clear hO hb1 d0 d1 d2 hB1
    go_wp2_with fail
    go_meet
    exact ⟨A1', c1', A2', c2', A3', c3', A4', c4', HR.out⟩
  case rest =>
    obtain ⟨A1', c1', A2', c2', A3', c3', A4', c4', hR⟩ := hcut
    obtain ⟨d0c, d0f, d0s, d0h⟩ := hR.b1.all
    obtain ⟨d1c, d1f, d1s, d1h⟩ := hR.b2.all
    obtain ⟨d2c, d2f, d2s, d2h⟩ := hR.b3.all
    have hsz : w.heap.size + 3 ≤ wc.heap.size := by have := hR.b3.lt; omega
    have HR := Aside.mk hR
    clear hR
    go_upto_region 4 with fail
    go_cut [30] (fun v wx => v = .bool false ∧ Aside (R13 s m Am cm w wx A1' c1' A2' c2' A3' c3' A4' c4'))
    case first =>
      cases hb1 : (m.q != 1)
      · go_wp2_with fail
        go_meet
        exact ⟨rfl, HR⟩
      · have hb2 : (m.q != 2) = false := by
          rcases HQ.out with hq | hq
          · simp [hq] at hb1
          · simp [hq]
        go_wp2_with fail
        go_meet
        exact ⟨rfl, HR⟩
    case rest =>
      clear d0c d0f d0s d0h d1c d1f d1s d1h d2c d2f d2s d2h hsz HR
      obtain ⟨rfl, HR⟩ := hcut
      obtain ⟨d0c, d0f, d0s, d0h⟩ := HR.out.b1.all
      go_upto_region 6 with fail
      go_cut [44] (fun v wx => v = .bool false ∧ Aside (R13 s m Am cm w wx A1' c1' A2' c2' A3' c3' A4' c4'))
      case first =>
        have hl3' : s.flight.length ≤ 140737488355328 := by omega
        have hl2' : s.queue.length ≤ 140737488355328 := by omega
        rcases on with _ | _
        · go_wp2_with fail
          go_meet
          exact ⟨rfl, HR⟩
        · by_cases hf : (s.flight.length : Int) < 4
          · have hn2 : ((s.queue.length : Int) == 0) = false := by
              have h1 := HC.out
              simp only [true_and, not_and, decide_eq_true_eq] at h1
              exact beq_false_of_ne (by omega)
            go_wp2_with fail
            go_meet
            exact ⟨rfl, HR⟩
          · have hf3 : (4 : Int) ≤ (s.flight.length : Int) := by omega
            go_wp2_with fail
            go_meet
            exact ⟨rfl, HR⟩
      case rest =>
        clear d0c d0f d0s d0h HR
        obtain ⟨rfl, HR⟩ := hcut
        obtain ⟨d0c, d0f, d0s, d0h⟩ := HR.out.b1.all
        obtain ⟨d1c, d1f, d1s, d1h⟩ := HR.out.b2.all
        have hl2' : s.queue.length ≤ 140737488355328 := by omega
        have hn4 : (s.queue.length : Int) < 16 := by have := HN.out; omega
        go_upto_region 12 with fail
        clear d0s d0h d1s d1h hn4
        go_cut [] (fun wx => ∃ A2s c2s, R12 s m w A1' c1' A3' c3' A4' c4' A2s c2s wx)
        case first =>
          go_region_law
            (first
              | (go_simp; go_at_call 28; refine (ownMessage_any m Am cm okm _ ?hSS).mono ?_; (case hSS => exact HM.out.below (HR.out.below.trans (Below.refl _ _).drew)); rintro e w1 ⟨Ap, cp, rfl, hP, hb1⟩; have hbw := Aside.mk (Below.trans ((Below.refl wc.heap.size wc).drew) hb1); have HP := Aside.mk hP; have e0 := HR.out.b1.belowAll hbw.out; obtain ⟨e0c, e0f, _, _⟩ := e0.all; have hlt1 : w.heap.size < w1.heap.size := e0.lt; have hne1 : ¬ w.heap.size = w1.heap.size := (by omega); have HS3 := Aside.mk (show w.heap.size + 3 ≤ wc.heap.size from (by have := HR.out.b3.lt; omega)); have HS4 := Aside.mk hbw.out.size; clear hP hb1; dsimp only)
              | (refine step_append_Own (P := Try.prog) _ (by rfl) kMsg (.tmp 60) (.tmp 63) 23 30 (by rfl) (.agg #[.string ⟨#[]⟩, .slice none 0 0, .int .i64 0, .bool false, .int .i64 0]) 64 Try.underlying23 info30 rfl (by decide) (ok := fun b => w.heap.size + 3 ≤ b ∧ some b ≠ (Value.slice A3' s.flight.length c3').ownBlock) (okp := fun b => wc.heap.size ≤ b ∧ b < w1.heap.size ∨ b = w1.heap.size) (lo := w.heap.size + 3) (v := .slice A2' s.queue.length c2') (xs := s.queue) (ys := [m]) (by rfl) ?_ (A := some ⟨w1.heap.size, 0, none⟩) (m := 1) (c := 1) (by rfl) ?_ ?_ ?_ ?_ ?_ ?_; exact (HR.out.own.queue.below hbw.out).below ((Below.refl _ _).alloc (Nat.le_refl _) _); exact Kn.C_free (C_litAt kMsg w1.heap.size rfl (msgCells m Ap cp) 30 ⟨Ap, cp, rfl, HP.out⟩); exact (fun b hb _ => ⟨⟨(by have := HS3.out; have := HS4.out; rcases hb with hb | hb <;> omega), fun e => (by have := (HR.out.own.flight.ge b e.symm).2; have := HS4.out; rcases hb with hb | hb <;> omega)⟩, fun e => (by have := (HR.out.own.queue.ge b e.symm).2; have := HS4.out; rcases hb with hb | hb <;> omega)⟩); exact (fun b hb => ⟨(by simp at hb; have := HS3.out; have := HS4.out; omega), fun e => (by simp at hb; have := (HR.out.own.flight.ge b e.symm).2; have := HS4.out; omega)⟩); (have h3 := HS3.out; have h4 := HS4.out; simp; omega); (have h3 := HN.out; simp; omega); intro v' w' hO hgr hat; obtain ⟨A2s, c2s, hv3, _⟩ := hO.reads (bytes := 64) (by have := HN.out; simp; omega); rw [List.length_append, List.length_singleton] at hv3; subst hv3; have f0 := (e0.alloc (.cells (msgCells m Ap cp).toArray 30)).grown hgr (fun e => (by have := (HR.out.own.queue.ge _ e.symm).1; omega)); obtain ⟨f0c, f0f, f0s, f0h⟩ := f0.all))
          all_goals
            have HX := Aside.mk (R12.mk' HR.out hbw.out hgr hO (by simpa using hat))
            clear hgr hO hat
            go_wp2_with fail
            go_meet
            exact ⟨A2s, c2s, HX.out⟩
        case rest =>
          clear d0c d0f d1c d1f HR
          obtain ⟨A2s, c2s, hR⟩ := hcut
          obtain ⟨d0c, d0f, _, _⟩ := hR.b1.all
          obtain ⟨d2c, d2f, d2s, d2h⟩ := hR.b3.all
          have HR := Aside.mk hR
          clear hR
          go_wp2_with fail
          refine bodyPost_ret (res_ctt rfl _ _ (w.heap.size + 2) 27 _ _ rfl (HR.out.b3.put _) Try.underlying27 rfl (by kernel_rfl)) rfl ?_
          have e : (queueS s m).queue.length = s.queue.length + 1 := by simp [queueS]
          refine ⟨_, _, rfl, ⟨A1', c1', A2s, c2s, A3', c3', A4', c4', by rw [sesCells, e]; rfl, ?_⟩, ⟨none, 0, rfl, Sl.nil _ _ _ _⟩, ?_⟩
          · exact ((HR.out.rd hl1 HN.out hl3 hl4).move ((Kp.put (Kp.refl _ _) (g := w.heap.size + 2) (fun b hb => by omega) _)).2).mono (fun b hb _ => by omega)
          · exact (below_put HR.out.below (g := w.heap.size + 2) (by omega) _)

end Go.Proofs.Ytmeeldcgmfplnaa
