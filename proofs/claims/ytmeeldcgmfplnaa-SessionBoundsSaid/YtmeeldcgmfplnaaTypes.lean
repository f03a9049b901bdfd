/-
  The program's data as plain Lean data, and how a value's cells read as them.
-/
import Derived.Test.YtmeeldcgmfplnaaMem
set_option linter.unusedVariables false
set_option linter.unusedSimpArgs false
namespace Go.Proofs.Ytmeeldcgmfplnaa
open Go.RowKit

structure Want where
  f : ByteArray
  q : Int

structure Msg where
  t : ByteArray
  p : List Int
  q : Int
  r : Bool
  u : Int

structure Flt where
  id : Int
  st : Int
  ord : Int
  m : Msg

structure Ses where
  cl : ByteArray
  subs : List Want
  queue : List Msg
  flight : List Flt
  ids : List Int
  nid : Int
  hd : Int
  snt : Int

structure Pkt where
  kind : Int
  id : Int
  dup : Bool
  m : Msg

structure Stp where
  doo : Int
  m : Msg
  kind : Int
  id : Int
  online : Bool

abbrev kU8 : Kn Int := Kn.int .u8
abbrev kI64 : Kn Int := Kn.int .i64

def kWant : Kn Want where
  sz := 2
  K := fun _ _ x cs => cs = [.string x.f, .int .i64 x.q]
  pos := by decide
  len := fun h => by rw [h]; rfl
  one := fun h u hu => by
    subst h
    simp only [List.mem_cons, List.not_mem_nil, or_false] at hu
    rcases hu with rfl | rfl <;> rfl
  move := fun _ h => h
  mono := fun _ h => h

/-- A message's five cells, its payload at A with capacity c. -/
abbrev msgCells (m : Msg) (A : Option Addr) (c : Nat) : List Value := [.string m.t, .slice A m.p.length c, .int .i64 m.q, .bool m.r, .int .i64 m.u]

def kMsg : Kn Msg where
  sz := 5
  K := fun ok w m cs => ∃ A c, cs = msgCells m A c ∧ Sl 1 kU8 ok w A c m.p
  pos := by decide
  len := by rintro ok w x cs ⟨A, c, rfl, _⟩; rfl
  one := by
    rintro ok w x cs ⟨A, c, rfl, _⟩ u hu
    simp only [List.mem_cons, List.not_mem_nil, or_false] at hu
    rcases hu with rfl | rfl | rfl | rfl | rfl <;> rfl
  move := by rintro ok w w1 x cs hm ⟨A, c, rfl, h⟩; exact ⟨A, c, rfl, h.move hm⟩
  mono := by rintro ok ok' w x cs hm ⟨A, c, rfl, h⟩; exact ⟨A, c, rfl, h.mono hm⟩

abbrev fltCells (f : Flt) (A : Option Addr) (c : Nat) : List Value :=
  [.int .i64 f.id, .int .i64 f.st, .int .i64 f.ord, .string f.m.t, .slice A f.m.p.length c, .int .i64 f.m.q, .bool f.m.r, .int .i64 f.m.u]

/-- A whole number that fits in 64 bits. -/
def In64 (n : Int) : Prop := (Lit.int .i64 n).wf = true
theorem In64.mk {n : Int} (h1 : -9223372036854775808 ≤ n) (h2 : n ≤ 9223372036854775807) : In64 n := by
  unfold In64 Lit.wf
  simp [IntKind.min, IntKind.max, IntKind.bits, IntKind.signed]
  omega

def kFlt : Kn Flt where
  sz := 8
  K := fun ok w f cs => ∃ A c, cs = fltCells f A c ∧ Sl 1 kU8 ok w A c f.m.p ∧ In64 f.id
  pos := by decide
  len := by rintro ok w x cs ⟨A, c, rfl, _⟩; rfl
  one := by
    rintro ok w x cs ⟨A, c, rfl, _⟩ u hu
    simp only [List.mem_cons, List.not_mem_nil, or_false] at hu
    rcases hu with rfl | rfl | rfl | rfl | rfl | rfl | rfl | rfl <;> rfl
  move := by rintro ok w w1 x cs hm ⟨A, c, rfl, h, hw⟩; exact ⟨A, c, rfl, h.move hm, hw⟩
  mono := by rintro ok ok' w x cs hm ⟨A, c, rfl, h, hw⟩; exact ⟨A, c, rfl, h.mono hm, hw⟩

/-- A packet's cells; what the sessions leave at zero is zero. -/
abbrev pktCells (p : Pkt) (A : Option Addr) (c : Nat) : List Value :=
  [.int .i64 p.kind, .int .i64 p.id, .bool p.dup, .string p.m.t, .slice A p.m.p.length c, .int .i64 p.m.q, .bool p.m.r, .int .i64 p.m.u,
   .string ⟨#[]⟩, .bool false, .int .i64 0, .bool false, .bool false, .int .i64 0, .slice none 0 0, .slice none 0 0]

def kPkt : Kn Pkt where
  sz := 16
  K := fun ok w p cs => ∃ A c, cs = pktCells p A c ∧ Sl 1 kU8 ok w A c p.m.p
  pos := by decide
  len := by rintro ok w x cs ⟨A, c, rfl, _⟩; rfl
  one := by
    rintro ok w x cs ⟨A, c, rfl, _⟩ u hu
    simp only [List.mem_cons, List.not_mem_nil, or_false] at hu
    rcases hu with rfl | rfl | rfl | rfl | rfl | rfl | rfl | rfl | rfl | rfl | rfl | rfl | rfl | rfl | rfl | rfl <;> rfl
  move := by rintro ok w w1 x cs hm ⟨A, c, rfl, h⟩; exact ⟨A, c, rfl, h.move hm⟩
  mono := by rintro ok ok' w x cs hm ⟨A, c, rfl, h⟩; exact ⟨A, c, rfl, h.mono hm⟩

abbrev stpCells (x : Stp) (A : Option Addr) (c : Nat) : List Value :=
  [.int .i64 x.doo, .string x.m.t, .slice A x.m.p.length c, .int .i64 x.m.q, .bool x.m.r, .int .i64 x.m.u, .int .i64 x.kind, .int .i64 x.id, .bool x.online]

def kStp : Kn Stp where
  sz := 9
  K := fun ok w x cs => ∃ A c, cs = stpCells x A c ∧ Sl 1 kU8 ok w A c x.m.p
  pos := by decide
  len := by rintro ok w x cs ⟨A, c, rfl, _⟩; rfl
  one := by
    rintro ok w x cs ⟨A, c, rfl, _⟩ u hu
    simp only [List.mem_cons, List.not_mem_nil, or_false] at hu
    rcases hu with rfl | rfl | rfl | rfl | rfl | rfl | rfl | rfl | rfl <;> rfl
  move := by rintro ok w w1 x cs hm ⟨A, c, rfl, h⟩; exact ⟨A, c, rfl, h.move hm⟩
  mono := by rintro ok ok' w x cs hm ⟨A, c, rfl, h⟩; exact ⟨A, c, rfl, h.mono hm⟩

/-- A session's cells by the four slices' places. -/
abbrev sesCells (s : Ses) (A1 : Option Addr) (c1 : Nat) (A2 : Option Addr) (c2 : Nat) (A3 : Option Addr) (c3 : Nat) (A4 : Option Addr) (c4 : Nat) : Array Value :=
  #[.string s.cl, .slice A1 s.subs.length c1, .slice A2 s.queue.length c2, .slice A3 s.flight.length c3, .slice A4 s.ids.length c4, .int .i64 s.nid, .int .i64 s.hd, .int .i64 s.snt]

/-- A session that reads, all its rows in blocks that ok allows. -/
structure RdSes (ok : Nat → Prop) (w : World) (s : Ses) (A1 : Option Addr) (c1 : Nat) (A2 : Option Addr) (c2 : Nat) (A3 : Option Addr) (c3 : Nat) (A4 : Option Addr) (c4 : Nat) : Prop where
  subs : Sl 24 kWant ok w A1 c1 s.subs
  queue : Sl 64 kMsg ok w A2 c2 s.queue
  flight : Sl 88 kFlt ok w A3 c3 s.flight
  ids : Sl 8 kI64 ok w A4 c4 s.ids

section
variable {ok ok' : Nat → Prop} {w w1 : World} {s : Ses} {A1 : Option Addr} {c1 : Nat} {A2 : Option Addr} {c2 : Nat} {A3 : Option Addr} {c3 : Nat} {A4 : Option Addr} {c4 : Nat}
theorem RdSes.move (h : RdSes ok w s A1 c1 A2 c2 A3 c3 A4 c4) (hm : ∀ b, ok b → b < w.heap.size → w1.heap[b]? = w.heap[b]?) : RdSes ok w1 s A1 c1 A2 c2 A3 c3 A4 c4 :=
  ⟨h.subs.move hm, h.queue.move hm, h.flight.move hm, h.ids.move hm⟩
theorem RdSes.mono (h : RdSes ok w s A1 c1 A2 c2 A3 c3 A4 c4) (hm : ∀ b, ok b → b < w.heap.size → ok' b) : RdSes ok' w s A1 c1 A2 c2 A3 c3 A4 c4 :=
  ⟨h.subs.mono hm, h.queue.mono hm, h.flight.mono hm, h.ids.mono hm⟩
theorem RdSes.below (h : RdSes ok w s A1 c1 A2 c2 A3 c3 A4 c4) (hb : Below w.heap.size w w1) : RdSes ok w1 s A1 c1 A2 c2 A3 c3 A4 c4 := h.move fun b _ hlt => hb.block b hlt
end

/-- A session value: it reads, in whatever blocks. -/
def IsSes (w : World) (v : Value) (s : Ses) : Prop := ∃ A1 c1 A2 c2 A3 c3 A4 c4, v = .agg (sesCells s A1 c1 A2 c2 A3 c3 A4 c4) ∧ RdSes (fun _ => True) w s A1 c1 A2 c2 A3 c3 A4 c4
/-- A row of packets: it reads, in whatever blocks. -/
def IsPkts (w : World) (v : Value) (l : List Pkt) : Prop := ∃ A c, v = .slice A l.length c ∧ Sl 184 kPkt (fun _ => True) w A c l
theorem IsSes.below {w w1 : World} {v : Value} {s : Ses} (h : IsSes w v s) (hb : Below w.heap.size w w1) : IsSes w1 v s := by
  obtain ⟨A1, c1, A2, c2, A3, c3, A4, c4, e, h⟩ := h
  exact ⟨A1, c1, A2, c2, A3, c3, A4, c4, e, h.below hb⟩
theorem IsPkts.below {w w1 : World} {v : Value} {l : List Pkt} (h : IsPkts w v l) (hb : Below w.heap.size w w1) : IsPkts w1 v l := by
  obtain ⟨A, c, e, h⟩ := h
  exact ⟨A, c, e, h.below hb⟩

/-! ### The cells of an element, as the walk spells their places -/
theorem add_field (ad : Addr) (m j : Nat) (hj : 0 < j) : ad.add (m + j) = ⟨(ad.add m).block, (ad.add m).off + j, none⟩ := by
  unfold Addr.add
  by_cases hm : m = 0
  · subst hm
    rw [if_neg (by omega)]
    simp
  · rw [if_neg (by omega), if_neg hm]
    simp [Nat.add_assoc]
theorem msg_at {ok : Nat → Prop} {w : World} {A : Option Addr} {n : Nat} {xs : List Msg} (h : kMsg.C ok w A n xs) {i : Nat} (hi : i < n) {x : Msg} (hx : xs[i]? = some x) :
    ∃ ad A' c', A = some ad ∧ Sl 1 kU8 ok w A' c' x.p ∧ w.cell? (ad.add (i * 5)) = some (.string x.t) ∧
      w.cell? ⟨(ad.add (i * 5)).block, (ad.add (i * 5)).off + 1, none⟩ = some (.slice A' x.p.length c') ∧ w.cell? ⟨(ad.add (i * 5)).block, (ad.add (i * 5)).off + 2, none⟩ = some (.int .i64 x.q) ∧
      w.cell? ⟨(ad.add (i * 5)).block, (ad.add (i * 5)).off + 3, none⟩ = some (.bool x.r) ∧ w.cell? ⟨(ad.add (i * 5)).block, (ad.add (i * 5)).off + 4, none⟩ = some (.int .i64 x.u) := by
  obtain ⟨ad, c, rfl, ⟨A', c', rfl, hS⟩, hc⟩ := Kn.C_at h hi hx
  refine ⟨ad, A', c', rfl, hS, hc 0 _ rfl, ?_, ?_, ?_, ?_⟩
  · rw [← add_field _ _ _ (by decide)]; exact hc 1 _ rfl
  · rw [← add_field _ _ _ (by decide)]; exact hc 2 _ rfl
  · rw [← add_field _ _ _ (by decide)]; exact hc 3 _ rfl
  · rw [← add_field _ _ _ (by decide)]; exact hc 4 _ rfl

theorem flt_at {ok : Nat → Prop} {w : World} {A : Option Addr} {n : Nat} {xs : List Flt} (h : kFlt.C ok w A n xs) {i : Nat} (hi : i < n) {x : Flt} (hx : xs[i]? = some x) :
    ∃ ad A' c', A = some ad ∧ Sl 1 kU8 ok w A' c' x.m.p ∧ In64 x.id ∧ w.cell? (ad.add (i * 8)) = some (.int .i64 x.id) ∧
      w.cell? ⟨(ad.add (i * 8)).block, (ad.add (i * 8)).off + 1, none⟩ = some (.int .i64 x.st) ∧ w.cell? ⟨(ad.add (i * 8)).block, (ad.add (i * 8)).off + 2, none⟩ = some (.int .i64 x.ord) ∧
      w.cell? ⟨(ad.add (i * 8)).block, (ad.add (i * 8)).off + 3, none⟩ = some (.string x.m.t) ∧ w.cell? ⟨(ad.add (i * 8)).block, (ad.add (i * 8)).off + 4, none⟩ = some (.slice A' x.m.p.length c') ∧
      w.cell? ⟨(ad.add (i * 8)).block, (ad.add (i * 8)).off + 5, none⟩ = some (.int .i64 x.m.q) ∧ w.cell? ⟨(ad.add (i * 8)).block, (ad.add (i * 8)).off + 6, none⟩ = some (.bool x.m.r) ∧
      w.cell? ⟨(ad.add (i * 8)).block, (ad.add (i * 8)).off + 7, none⟩ = some (.int .i64 x.m.u) := by
  obtain ⟨ad, c, rfl, ⟨A', c', rfl, hS, hw⟩, hc⟩ := Kn.C_at h hi hx
  refine ⟨ad, A', c', rfl, hS, hw, hc 0 _ rfl, ?_, ?_, ?_, ?_, ?_, ?_, ?_⟩
  · rw [← add_field _ _ _ (by decide)]; exact hc 1 _ rfl
  · rw [← add_field _ _ _ (by decide)]; exact hc 2 _ rfl
  · rw [← add_field _ _ _ (by decide)]; exact hc 3 _ rfl
  · rw [← add_field _ _ _ (by decide)]; exact hc 4 _ rfl
  · rw [← add_field _ _ _ (by decide)]; exact hc 5 _ rfl
  · rw [← add_field _ _ _ (by decide)]; exact hc 6 _ rfl
  · rw [← add_field _ _ _ (by decide)]; exact hc 7 _ rfl
end Go.Proofs.Ytmeeldcgmfplnaa
