/-
  Words of our own for memory: a value that reads as data, all of whose rows lie in blocks that a given predicate allows. No program in sight.
-/
import Derived.Below
import Derived.Maps.AppendAt
import Derived.Deep.AppendLies
import Derived.Deep.Draws
import Derived.Laws.OwnMore
set_option linter.unusedVariables false
set_option linter.unusedSimpArgs false
namespace Go.Proofs.Ytmeeldcgmfplnaa
open Go.RowKit

/-- A fact that the walk's simp doesn't look into. -/
structure Aside (p : Prop) : Prop where mk :: (out : p)

theorem blk_add (a : Addr) (n : Nat) : (a.add n).block = a.block := by unfold Addr.add; split <;> rfl
theorem add_add' (a : Addr) (i j : Nat) : (a.add i).add j = a.add (i + j) := by
  unfold Addr.add
  by_cases hi : i = 0 <;> by_cases hj : j = 0 <;> simp [hi, hj, Nat.add_assoc]

/-- Elements of `size` cells each, one behind the other. -/
def Reps {α : Type} (R : α → List Value → Prop) (size : Nat) (ps : List α) (cs : List Value) : Prop :=
  cs.length = ps.length * size ∧ ∀ j p, ps[j]? = some p → R p ((cs.drop (j * size)).take size)

theorem Reps.nil {α : Type} (R : α → List Value → Prop) (size : Nat) : Reps R size [] [] := ⟨by simp, fun j p h => by simp at h⟩

theorem Reps.imp {α : Type} {R R' : α → List Value → Prop} {size : Nat} {ps : List α} {cs : List Value} (h : Reps R size ps cs) (hR : ∀ p c, R p c → R' p c) : Reps R' size ps cs :=
  ⟨h.1, fun j p hj => hR _ _ (h.2 j p hj)⟩

theorem Reps.append {α : Type} {R : α → List Value → Prop} {size : Nat} {ps qs : List α} {cs ds : List Value} (h : Reps R size ps cs) (k : Reps R size qs ds) : Reps R size (ps ++ qs) (cs ++ ds) := by
  refine ⟨by rw [List.length_append, h.1, k.1, List.length_append, Nat.add_mul], fun j q hq => ?_⟩
  rcases Nat.lt_or_ge j ps.length with hj | hj
  · rw [List.getElem?_append_left hj] at hq
    have h1 : j * size + size ≤ cs.length := by rw [h.1, ← Nat.succ_mul]; exact Nat.mul_le_mul_right _ hj
    have h2 := h.2 j q hq
    rw [List.drop_append_of_le_length (by omega), List.take_append_of_le_length (by rw [List.length_drop]; omega)]
    exact h2
  · rw [List.getElem?_append_right hj] at hq
    have h2 := k.2 _ q hq
    have e : j * size = cs.length + (j - ps.length) * size := by
      rw [h.1, ← Nat.add_mul]; congr 1; omega
    rw [e, List.drop_append]
    have e2 : List.drop (cs.length + (j - ps.length) * size) cs = [] := List.drop_of_length_le (by omega)
    rw [e2, List.nil_append, Nat.add_sub_cancel_left]
    exact h2

theorem Reps.one {α : Type} {R : α → List Value → Prop} {size : Nat} {p : α} {c : List Value} (h : R p c) (hl : c.length = size) : Reps R size [p] c := by
  refine ⟨by simp [hl], fun j q hq => ?_⟩
  have hj : j = 0 := by have := (List.getElem?_eq_some_iff.1 hq).1; simp at this; omega
  subst hj
  have : p = q := by simpa using hq
  subst this
  simp only [Nat.zero_mul, List.drop_zero]
  rw [← hl, List.take_length]
  exact h

theorem Reps.snoc {α : Type} {R : α → List Value → Prop} {size : Nat} {ps : List α} {cs c : List Value} {p : α} (h : Reps R size ps cs) (hp : R p c) (hc : c.length = size) : Reps R size (ps ++ [p]) (cs ++ c) :=
  h.append (Reps.one hp hc)

theorem Reps.drop {α : Type} {R : α → List Value → Prop} {size : Nat} {ps : List α} {cs : List Value} (h : Reps R size ps cs) (k : Nat) : Reps R size (ps.drop k) (cs.drop (k * size)) := by
  refine ⟨by rw [List.length_drop, h.1, List.length_drop, Nat.sub_mul], fun j p hj => ?_⟩
  rw [List.getElem?_drop] at hj
  have := h.2 _ p hj
  rw [List.drop_drop, ← Nat.add_mul]
  exact this

theorem Reps.take {α : Type} {R : α → List Value → Prop} {size : Nat} {ps : List α} {cs : List Value} (h : Reps R size ps cs) (k : Nat) : Reps R size (ps.take k) (cs.take (k * size)) := by
  refine ⟨by rw [List.length_take, h.1, List.length_take, Nat.mul_min_mul_right], fun j p hj => ?_⟩
  have hk : j < k := by
    rcases Nat.lt_or_ge j k with h' | h'
    · exact h'
    · rw [List.getElem?_take_eq_none h'] at hj; cases hj
  rw [List.getElem?_take_of_lt hk] at hj
  have := h.2 _ p hj
  have h1 : j * size + size ≤ k * size := by rw [← Nat.succ_mul]; exact Nat.mul_le_mul_right _ hk
  rw [List.drop_take, List.take_take, Nat.min_eq_left (by omega)]
  exact this

theorem Reps.mem {α : Type} {R : α → List Value → Prop} {size : Nat} {ps : List α} {cs : List Value} (h : Reps R size ps cs) (hs : 0 < size) (P : Value → Prop) (hP : ∀ p c, R p c → ∀ u ∈ c, P u) : ∀ u ∈ cs, P u := by
  intro u hu
  obtain ⟨i, hi, rfl⟩ := List.mem_iff_getElem.1 hu
  have hlt : i / size < ps.length := by rw [Nat.div_lt_iff_lt_mul hs]; rw [← h.1]; exact hi
  refine hP _ _ (h.2 (i / size) _ (List.getElem?_eq_getElem hlt)) _ ?_
  refine List.mem_iff_getElem?.2 ⟨i % size, ?_⟩
  rw [List.getElem?_take_of_lt (Nat.mod_lt _ hs), List.getElem?_drop]
  have : i / size * size + i % size = i := by rw [Nat.mul_comm]; exact Nat.div_add_mod i size
  rw [this, List.getElem?_eq_getElem hi]

/-- A kind: how a value's cells read as data, all rows inside lying in blocks that `ok` allows. -/
structure Kn (α : Type) where
  sz : Nat
  K : (Nat → Prop) → World → α → List Value → Prop
  pos : 0 < sz
  len : ∀ {ok w x cs}, K ok w x cs → cs.length = sz
  one : ∀ {ok w x cs}, K ok w x cs → ∀ u ∈ cs, u.oneCell' = true
  move : ∀ {ok w w1 x cs}, (∀ b, ok b → b < w.heap.size → w1.heap[b]? = w.heap[b]?) → K ok w x cs → K ok w1 x cs
  mono : ∀ {ok ok' : Nat → Prop} {w x cs}, (∀ b, ok b → b < w.heap.size → ok' b) → K ok w x cs → K ok' w x cs

namespace Kn
variable {α : Type}

/-- A row of elements: from an address on they lie one behind the other. -/
def C (d : Kn α) (ok : Nat → Prop) (w : World) (A : Option Addr) (n : Nat) (xs : List α) : Prop :=
  xs.length = n ∧ (0 < n → ∃ ad cs, A = some ad ∧ ok ad.block ∧ Reps (d.K ok w) d.sz xs cs ∧ ∀ j u, cs[j]? = some u → w.cell? (ad.add j) = some u)

theorem C_move {d : Kn α} {ok : Nat → Prop} {w w1 : World} {A : Option Addr} {n : Nat} {xs : List α} (hm : ∀ b, ok b → b < w.heap.size → w1.heap[b]? = w.heap[b]?) (h : d.C ok w A n xs) : d.C ok w1 A n xs :=
  ⟨h.1, fun hn => by
    obtain ⟨ad, cs, e, ho, hr, hc⟩ := h.2 hn
    refine ⟨ad, cs, e, ho, hr.imp (fun _ _ => d.move hm), fun j u hu => ?_⟩
    have h1 := hc j u hu
    have h2 := World.block_lt_of_cell? w _ h1
    rw [blk_add] at h2
    exact (World.cell?_of_block (w := w) (by rw [blk_add]; exact hm _ ho h2)).trans h1⟩

theorem C_lt {d : Kn α} {ok : Nat → Prop} {w : World} {A : Option Addr} {n : Nat} {xs : List α} (h : d.C ok w A n xs) (hn : 0 < n) : ∃ ad, A = some ad ∧ ok ad.block ∧ ad.block < w.heap.size := by
  obtain ⟨ad, cs, e, ho, hr, hc⟩ := h.2 hn
  refine ⟨ad, e, ho, ?_⟩
  have hl : 0 < cs.length := by rw [hr.1, h.1]; exact Nat.mul_pos hn d.pos
  have h2 := World.block_lt_of_cell? w _ (hc 0 _ (List.getElem?_eq_getElem hl))
  rwa [blk_add] at h2

theorem C_mono {d : Kn α} {ok ok' : Nat → Prop} {w : World} {A : Option Addr} {n : Nat} {xs : List α} (hm : ∀ b, ok b → b < w.heap.size → ok' b) (h : d.C ok w A n xs) : d.C ok' w A n xs :=
  ⟨h.1, fun hn => by
    obtain ⟨ad', e', _, hlt⟩ := C_lt h hn
    obtain ⟨ad, cs, e, ho, hr, hc⟩ := h.2 hn
    obtain rfl : ad = ad' := by rw [e] at e'; exact Option.some.inj e'
    exact ⟨ad, cs, e, hm _ ho hlt, hr.imp (fun _ _ => d.mono hm), hc⟩⟩

theorem C_nil (d : Kn α) (ok : Nat → Prop) (w : World) (A : Option Addr) : d.C ok w A 0 [] := ⟨rfl, fun h => absurd h (Nat.lt_irrefl 0)⟩

/-- The cells of element i, each at its place. -/
theorem C_at {d : Kn α} {ok : Nat → Prop} {w : World} {A : Option Addr} {n : Nat} {xs : List α} (h : d.C ok w A n xs) {i : Nat} (hi : i < n) {x : α} (hx : xs[i]? = some x) :
    ∃ ad c, A = some ad ∧ d.K ok w x c ∧ ∀ j u, c[j]? = some u → w.cell? (ad.add (i * d.sz + j)) = some u := by
  obtain ⟨ad, cs, e, _, hr, hc⟩ := h.2 (by omega)
  refine ⟨ad, _, e, hr.2 i x hx, fun j u hu => hc _ u ?_⟩
  rcases Nat.lt_or_ge j d.sz with hj | hj
  · rw [List.getElem?_take_of_lt hj, List.getElem?_drop] at hu
    exact hu
  · rw [List.getElem?_take_eq_none hj] at hu; cases hu

theorem C_drop {d : Kn α} {ok : Nat → Prop} {w : World} {A : Option Addr} {n c : Nat} {xs : List α} (h : d.C ok w A n xs) (k : Nat) (hk : k ≤ n) (hc : n ≤ c) :
    d.C ok w (if c = k then A else A.map (·.add (k * d.sz))) (n - k) (xs.drop k) := by
  refine ⟨by rw [List.length_drop, h.1], fun hn => ?_⟩
  obtain ⟨ad, cs, e, ho, hr, hcell⟩ := h.2 (by omega)
  subst e
  rw [if_neg (by omega)]
  refine ⟨ad.add (k * d.sz), cs.drop (k * d.sz), rfl, by rw [blk_add]; exact ho, hr.drop k, fun j u hu => ?_⟩
  rw [add_add']
  rw [List.getElem?_drop] at hu
  exact hcell _ u hu

theorem C_take {d : Kn α} {ok : Nat → Prop} {w : World} {A : Option Addr} {n : Nat} {xs : List α} (h : d.C ok w A n xs) (k : Nat) (hk : k ≤ n) : d.C ok w A k (xs.take k) := by
  refine ⟨by rw [List.length_take, h.1]; omega, fun hn => ?_⟩
  obtain ⟨ad, cs, e, ho, hr, hcell⟩ := h.2 (by omega)
  refine ⟨ad, cs.take (k * d.sz), e, ho, hr.take k, fun j u hu => ?_⟩
  rcases Nat.lt_or_ge j (k * d.sz) with hj | hj
  · rw [List.getElem?_take_of_lt hj] at hu
    exact hcell _ u hu
  · rw [List.getElem?_take_eq_none hj] at hu; cases hu

/-- A row of the call's own reads as a row. -/
theorem C_of_own {d : Kn α} {ok : Nat → Prop} {w : World} {base e n : Nat} {A : Option Addr} {c : Nat} {xs : List α} {cs : List Value} (h : w.ownsRow base e d.sz (.slice A n c) n cs) (hr : Reps (d.K ok w) d.sz xs cs) (hn : xs.length = n) (hok : ∀ g, (Value.slice A n c).ownBlock = some g → ok g) : d.C ok w A n xs := by
  refine ⟨hn, fun hp => ?_⟩
  obtain ⟨g, cap, hv, _, _⟩ := h.form hp
  have hA : A = some ⟨g, 0, none⟩ := by injection hv
  subst hA
  exact ⟨_, cs, rfl, hok g rfl, hr, h.cells (g := g) rfl⟩

def scalar (enc : α → Value) (h1 : ∀ x, (enc x).oneCell' = true) : Kn α where
  sz := 1
  K := fun _ _ x cs => cs = [enc x]
  pos := Nat.one_pos
  len := fun h => by rw [h]; rfl
  one := fun h u hu => by
    rw [h] at hu
    rw [List.mem_singleton.1 hu]
    exact h1 _
  move := fun _ h => h
  mono := fun _ h => h

def int (k : IntKind) : Kn Int := scalar (Value.int k) (fun _ => rfl)
def bool : Kn Bool := scalar Value.bool (fun _ => rfl)
def str : Kn ByteArray := scalar Value.string (fun _ => rfl)

/-- A slice value whose elements (of so many bytes each) read. -/
def slice (bytes : Nat) (d : Kn α) : Kn (List α) where
  sz := 1
  K := fun ok w xs cs => ∃ A c, cs = [.slice A xs.length c] ∧ xs.length ≤ c ∧ c ≤ maxLen ∧ xs.length * bytes ≤ 140737488355328 ∧ d.C ok w A xs.length xs
  pos := Nat.one_pos
  len := by
    rintro ok w x cs ⟨A, c, rfl, _⟩
    rfl
  one := by
    rintro ok w x cs ⟨A, c, rfl, _⟩ u hu
    rw [List.mem_singleton.1 hu]
    rfl
  move := by
    rintro ok w w1 x cs hm ⟨A, c, rfl, hl, hb, hr⟩
    exact ⟨A, c, rfl, hl, hb, hr.1, C_move hm hr.2⟩
  mono := by
    rintro ok ok' w x cs hm ⟨A, c, rfl, hl, hb, hr⟩
    exact ⟨A, c, rfl, hl, hb, hr.1, C_mono hm hr.2⟩

/-- Two in line. -/
def pair {β : Type} (a : Kn α) (b : Kn β) : Kn (α × β) where
  sz := a.sz + b.sz
  K := fun ok w x cs => ∃ c0 c1, cs = c0 ++ c1 ∧ a.K ok w x.1 c0 ∧ b.K ok w x.2 c1
  pos := Nat.lt_of_lt_of_le a.pos (Nat.le_add_right _ _)
  len := by
    rintro ok w x cs ⟨c0, c1, rfl, h0, h1⟩
    rw [List.length_append, a.len h0, b.len h1]
  one := by
    rintro ok w x cs ⟨c0, c1, rfl, h0, h1⟩ u hu
    rcases List.mem_append.1 hu with hu | hu
    · exact a.one h0 u hu
    · exact b.one h1 u hu
  move := by
    rintro ok w w1 x cs hm ⟨c0, c1, rfl, h0, h1⟩
    exact ⟨c0, c1, rfl, a.move hm h0, b.move hm h1⟩
  mono := by
    rintro ok ok' w x cs hm ⟨c0, c1, rfl, h0, h1⟩
    exact ⟨c0, c1, rfl, a.mono hm h0, b.mono hm h1⟩

/-- A Lean structure by its fields. -/
def iso {β : Type} (d : Kn α) (f : β → α) : Kn β where
  sz := d.sz
  K := fun ok w x cs => d.K ok w (f x) cs
  pos := d.pos
  len := d.len
  one := d.one
  move := d.move
  mono := d.mono

/-- The same, of the elements' own rows alone: where the row itself lies is not told. -/
def Cf (d : Kn α) (ok : Nat → Prop) (w : World) (A : Option Addr) (n : Nat) (xs : List α) : Prop :=
  xs.length = n ∧ (0 < n → ∃ ad cs, A = some ad ∧ Reps (d.K ok w) d.sz xs cs ∧ ∀ j u, cs[j]? = some u → w.cell? (ad.add j) = some u)
theorem C_free {d : Kn α} {ok : Nat → Prop} {w : World} {A : Option Addr} {n : Nat} {xs : List α} (h : d.C ok w A n xs) : d.Cf ok w A n xs :=
  ⟨h.1, fun hn => by
    obtain ⟨ad, cs, e, _, hr, hc⟩ := h.2 hn
    exact ⟨ad, cs, e, hr, hc⟩⟩
theorem Cf_scalar {enc : α → Value} {h1 : ∀ x, (enc x).oneCell' = true} {ok : Nat → Prop} (ok' : Nat → Prop) {w : World} {A : Option Addr} {n : Nat} {xs : List α} (h : (scalar enc h1).C ok w A n xs) : (scalar enc h1).Cf ok' w A n xs :=
  C_free (ok := ok) h
theorem C_below {d : Kn α} {ok : Nat → Prop} {w w1 : World} {A : Option Addr} {n : Nat} {xs : List α} (h : d.C ok w A n xs) (hb : Below w.heap.size w w1) : d.C ok w1 A n xs := C_move (fun b _ hlt => hb.block b hlt) h

theorem C_one {d : Kn α} {ok : Nat → Prop} {w : World} {xs : List α} {cs : List Value} (h : Reps (d.K ok w) d.sz xs cs) : ∀ u ∈ cs, u.oneCell' = true :=
  h.mem d.pos _ (fun _ _ hp => d.one hp)
end Kn

/-! ### A block that is known whole -/
/-- Block g is just the cells cs, of element type t, none of them frozen. -/
def Blk (w : World) (g : Nat) (t : TypeId) (cs : Array Value) : Prop := w.heap[g]? = some (.cells cs t (0, 0))

section
variable {w w' : World} {g : Nat} {t : TypeId} {cs : Array Value}
theorem Blk.lt (h : Blk w g t cs) : g < w.heap.size := (Array.getElem?_eq_some_iff.1 h).1
theorem Blk.cells (h : Blk w g t cs) (i : Nat) : w.cell? ⟨g, i, none⟩ = cs[i]? := cell_of_row w g i cs t (0, 0) h
theorem Blk.free (h : Blk w g t cs) (i : Nat) : w.frozen? ⟨g, i, none⟩ = false := by
  unfold Blk at h
  simp [World.frozen?, h]
theorem Blk.new (w : World) (t : TypeId) (cs : Array Value) : Blk (w.alloc (.cells cs t)) w.heap.size t cs := heap_alloc_new w _
theorem Blk.newAt (w : World) (g : Nat) (hg : g = w.heap.size) (t : TypeId) (cs : Array Value) : Blk (w.alloc (.cells cs t)) g t cs := by subst hg; exact Blk.new w t cs
theorem Blk.drew (h : Blk w g t cs) : Blk w.drew g t cs := h
theorem Blk.drewN (h : Blk w g t cs) (n : Nat) : Blk (w.drewN n) g t cs := h
theorem Blk.alloc (h : Blk w g t cs) (o : Obj) : Blk (w.alloc o) g t cs := (Below.heap_alloc w o g h.lt).trans h
theorem Blk.set (h : Blk w g t cs) (i : Nat) (u : Value) : Blk (w.setCell ⟨g, i, none⟩ u) g t (cs.setIfInBounds i u) := by
  unfold Blk at h ⊢
  simp [World.setCell, Array.getElem?_modify, h]
theorem Blk.far (h : Blk w g t cs) {p : Addr} (hp : g ≠ p.block) (u : Value) : Blk (w.setCell p u) g t cs := (Below.heap_setCell w p u g hp).trans h
theorem Blk.below {B : Nat} (h : Blk w g t cs) (hb : Below B w w') (hg : g < B) : Blk w' g t cs := (hb.block g hg).trans h
theorem Blk.grown {row : Option Nat} (h : Blk w g t cs) (hb : w.grownBy w' row) (hg : some g ≠ row) : Blk w' g t cs := (hb.block g h.lt hg).trans h
theorem Blk.ne {g' : Nat} {t' : TypeId} {cs' : Array Value} (h : Blk w g t cs) (h' : Blk w g' t' cs') (hne : t ≠ t') : g ≠ g' := by
  rintro rfl
  unfold Blk at h h'
  rw [h] at h'
  injection h' with h'
  injection h' with _ ht
  exact hne ht
end

/-! ### What stays -/
/-- Of the blocks that ok allows none has turned. -/
def Kp (ok : Nat → Prop) (w w' : World) : Prop := w.heap.size ≤ w'.heap.size ∧ ∀ b, ok b → b < w.heap.size → w'.heap[b]? = w.heap[b]?
section
variable {ok : Nat → Prop} {w w1 w2 : World}
theorem Kp.refl (ok : Nat → Prop) (w : World) : Kp ok w w := ⟨Nat.le_refl _, fun _ _ _ => rfl⟩
theorem Kp.set (h : Kp ok w w1) {p : Addr} (hp : ∀ b, ok b → b ≠ p.block) (u : Value) : Kp ok w (w1.setCell p u) :=
  ⟨by simpa [World.setCell] using h.1, fun b hb hlt => (Below.heap_setCell w1 p u b (hp b hb)).trans (h.2 b hb hlt)⟩
theorem Kp.alloc (h : Kp ok w w1) (o : Obj) : Kp ok w (w1.alloc o) :=
  ⟨by have := h.1; simp; omega, fun b hb hlt => (Below.heap_alloc w1 o b (by have := h.1; omega)).trans (h.2 b hb hlt)⟩
theorem Kp.drew (h : Kp ok w w1) : Kp ok w w1.drew := h
theorem Kp.drewN (h : Kp ok w w1) (n : Nat) : Kp ok w (w1.drewN n) := h
theorem Kp.below (h : Kp ok w w1) (hb : Below w1.heap.size w1 w2) : Kp ok w w2 := ⟨Nat.le_trans h.1 hb.size, fun b ho hlt => (hb.block b (by have := h.1; omega)).trans (h.2 b ho hlt)⟩
theorem Kp.grown (h : Kp ok w w1) {row : Option Nat} (hg : w1.grownBy w2 row) (hr : ∀ b, ok b → some b ≠ row) : Kp ok w w2 :=
  ⟨Nat.le_trans h.1 hg.size, fun b ho hlt => (hg.block b (by have := h.1; omega) (hr b ho)).trans (h.2 b ho hlt)⟩
end

/-! ### A slice as its parts: address, length, capacity -/
/-- The slice value `.slice A xs.length c` reads as xs. -/
def Sl {α : Type} (bytes : Nat) (d : Kn α) (ok : Nat → Prop) (w : World) (A : Option Addr) (c : Nat) (xs : List α) : Prop :=
  xs.length ≤ c ∧ c ≤ maxLen ∧ xs.length * bytes ≤ 140737488355328 ∧ d.C ok w A xs.length xs

section
variable {α : Type} {bytes : Nat} {d : Kn α} {ok ok' : Nat → Prop} {w w1 : World} {A : Option Addr} {c : Nat} {xs : List α}
theorem Sl.move (h : Sl bytes d ok w A c xs) (hm : ∀ b, ok b → b < w.heap.size → w1.heap[b]? = w.heap[b]?) : Sl bytes d ok w1 A c xs := ⟨h.1, h.2.1, h.2.2.1, Kn.C_move hm h.2.2.2⟩
theorem Sl.mono (h : Sl bytes d ok w A c xs) (hm : ∀ b, ok b → b < w.heap.size → ok' b) : Sl bytes d ok' w A c xs := ⟨h.1, h.2.1, h.2.2.1, Kn.C_mono hm h.2.2.2⟩
theorem Sl.below (h : Sl bytes d ok w A c xs) (hb : Below w.heap.size w w1) : Sl bytes d ok w1 A c xs := h.move fun b _ hlt => hb.block b hlt
theorem Sl.nil (bytes : Nat) (d : Kn α) (ok : Nat → Prop) (w : World) : Sl bytes d ok w none 0 [] := ⟨Nat.le_refl _, by decide, by simp, Kn.C_nil d ok w none⟩
theorem Sl.len (h : Sl bytes d ok w A c xs) : xs.length ≤ 140737488355328 ∨ bytes = 0 := by
  rcases Nat.eq_zero_or_pos bytes with h0 | h0
  · exact .inr h0
  · exact .inl (Nat.le_trans (Nat.le_mul_of_pos_right _ h0) h.2.2.1)
end

/-! ### A row of the call's own -/
/-- The slice value v is a row of the call's own (its block from lo on, of type e, allowed by ok); the rows inside its elements lie in other blocks that ok allows. -/
def Own {α : Type} (e : TypeId) (d : Kn α) (ok : Nat → Prop) (lo : Nat) (w : World) (v : Value) (xs : List α) : Prop :=
  (∀ k, v.ownBlock = some k → ok k) ∧ ∃ cs, w.ownsRow lo e d.sz v xs.length cs ∧ Reps (d.K (fun b => ok b ∧ some b ≠ v.ownBlock) w) d.sz xs cs

section
variable {α : Type} {e : TypeId} {d : Kn α} {ok ok' : Nat → Prop} {lo lo' : Nat} {w w1 : World} {v : Value} {xs : List α}
theorem Own.nil (e : TypeId) (d : Kn α) (ok : Nat → Prop) (lo : Nat) (w : World) : Own e d ok lo w (.slice none 0 0) [] :=
  ⟨fun k hk => by simp [Value.ownBlock] at hk, [], World.ownsRow_nil w lo e d.sz, Reps.nil _ _⟩
theorem own_lt' {size n : Nat} {cs : List Value} (h : w.ownsRow lo e size v n cs) (k : Nat) (hk : v.ownBlock = some k) : lo ≤ k ∧ k < w.heap.size := h.lt k hk
theorem own_move' {size n : Nat} {cs : List Value} (h : w.ownsRow lo e size v n cs) (hm : ∀ k, v.ownBlock = some k → w1.heap[k]? = w.heap[k]?) : w1.ownsRow lo e size v n cs := by
  obtain ⟨h1, h2⟩ := h
  refine ⟨h1, ?_⟩
  rcases h2 with h2 | ⟨g, cap, cur, rfl, hg, hh, r⟩
  · exact .inl h2
  · exact .inr ⟨g, cap, cur, rfl, hg, (hm g (by simp [Value.ownBlock])).trans hh, r⟩
theorem Own.move (h : Own e d ok lo w v xs) (hm : ∀ b, ok b → b < w.heap.size → w1.heap[b]? = w.heap[b]?) : Own e d ok lo w1 v xs := by
  obtain ⟨h0, cs, ho, hr⟩ := h
  exact ⟨h0, cs, own_move' ho (fun k hk => hm k (h0 k hk) (ho.lt k hk).2), hr.imp (fun _ _ => d.move (fun b hb => hm b hb.1))⟩
theorem Own.below (h : Own e d ok lo w v xs) (hb : Below w.heap.size w w1) : Own e d ok lo w1 v xs := h.move fun b _ hlt => hb.block b hlt
theorem Own.mono (h : Own e d ok lo w v xs) (hm : ∀ b, ok b → b < w.heap.size → ok' b) : Own e d ok' lo w v xs := by
  obtain ⟨h0, cs, ho, hr⟩ := h
  exact ⟨fun k hk => hm k (h0 k hk) (ho.lt k hk).2, cs, ho, hr.imp (fun _ _ => d.mono (fun b hb hlt => ⟨hm b hb.1 hlt, hb.2⟩))⟩
theorem Own.ge (h : Own e d ok lo w v xs) (k : Nat) (hk : v.ownBlock = some k) : lo ≤ k ∧ k < w.heap.size := by
  obtain ⟨_, cs, ho, _⟩ := h
  exact ho.lt k hk
theorem own_typed' {size n : Nat} {cs : List Value} (h : w.ownsRow lo e size v n cs) (k : Nat) (hk : v.ownBlock = some k) : ∃ cells, w.heap[k]? = some (.cells cells e (0, 0)) := by
  rcases h.2 with ⟨rfl, _⟩ | ⟨g, cap, cur, rfl, hg, hh, r⟩
  · simp [Value.ownBlock] at hk
  · have : g = k := by simpa [Value.ownBlock] using hk
    subst this
    exact ⟨cur, hh⟩
theorem Own.typed (h : Own e d ok lo w v xs) (k : Nat) (hk : v.ownBlock = some k) : ∃ cells, w.heap[k]? = some (.cells cells e (0, 0)) := by
  obtain ⟨_, cs, ho, _⟩ := h
  exact own_typed' ho k hk
/-- The value's shape, and that it reads. -/
theorem Own.reads (h : Own e d ok lo w v xs) {bytes : Nat} (hb : xs.length * bytes ≤ 140737488355328) : ∃ A c, v = .slice A xs.length c ∧ Sl bytes d ok w A c xs := by
  obtain ⟨h0, cs, ho, hr⟩ := h
  have hs : ∃ A c, v = .slice A xs.length c ∧ xs.length ≤ c ∧ c ≤ maxLen := by
    rcases ho.2 with ⟨rfl, hn⟩ | ⟨g, cap, cur, rfl, _, _, h1, h2, _⟩
    · exact ⟨none, 0, by rw [hn], by omega, by decide⟩
    · exact ⟨_, cap, rfl, h1, h2⟩
  obtain ⟨A, c, rfl, hl, hc⟩ := hs
  exact ⟨A, c, rfl, hl, hc, hb, Kn.C_of_own ho (hr.imp (fun _ _ => d.mono (fun b hb _ => hb.1))) rfl (fun g hg => h0 g hg)⟩
/-- What an append to a row of one's own leaves. -/
theorem Own.appended {v1 : Value} {ys : List α} {cs : List Value} {okp : Nat → Prop} (h0 : ∀ k, v.ownBlock = some k → ok k) (hr : Reps (d.K (fun b => ok b ∧ some b ≠ v.ownBlock) w) d.sz xs cs)
    {ds : List Value} (hp : Reps (d.K okp w) d.sz ys ds) (hokp : ∀ b, okp b → b < w.heap.size → ok b ∧ some b ≠ v.ownBlock) (hfresh : ∀ b, w.heap.size ≤ b → ok b)
    (hown : w1.ownsRow lo e d.sz v1 (xs ++ ys).length (cs ++ ds)) (hg : w.grownBy w1 v.ownBlock) (hat : v1.ownBlock = v.ownBlock ∨ v1.ownBlock = some w.heap.size) : Own e d ok lo w1 v1 (xs ++ ys) := by
  have hne : ∀ b, some b ≠ v.ownBlock → b < w.heap.size → some b ≠ v1.ownBlock := by
    intro b hb hlt
    rcases hat with hat | hat
    · rw [hat]; exact hb
    · rw [hat]
      intro he
      injection he with he
      omega
  refine ⟨fun k hk => ?_, cs ++ ds, hown, ?_⟩
  · rcases hat with hat | hat
    · exact h0 k (hat ▸ hk)
    · rw [hat] at hk
      injection hk with hk
      exact hfresh k (by omega)
  · refine Reps.append (hr.imp fun x c hx => ?_) (hp.imp fun x c hx => ?_)
    · exact d.move (fun b hb hlt => hg.block b hlt hb.2.2) (d.mono (ok' := fun b => (ok b ∧ some b ≠ v1.ownBlock) ∧ (ok b ∧ some b ≠ v.ownBlock)) (fun b hb hlt => ⟨⟨hb.1, hne b hb.2 hlt⟩, hb⟩) hx) |> d.mono (fun b hb _ => hb.1)
    · exact d.move (fun b hb hlt => hg.block b hlt hb.2.2) (d.mono (ok' := fun b => (ok b ∧ some b ≠ v1.ownBlock) ∧ (ok b ∧ some b ≠ v.ownBlock)) (fun b hb hlt => ⟨⟨(hokp b hb hlt).1, hne b (hokp b hb hlt).2 hlt⟩, hokp b hb hlt⟩) hx) |> d.mono (fun b hb _ => hb.1)
end

/-! ### What stays behind an append to another row -/
section
variable {α : Type} {e : TypeId} {d : Kn α} {P : Nat → Prop} {lo : Nat} {w w1 : World} {u v v1 : Value} {xs : List α} {bytes : Nat} {A : Option Addr} {c : Nat}
theorem ok_after (hat : v1.ownBlock = v.ownBlock ∨ v1.ownBlock = some w.heap.size) (b : Nat) (hb : P b ∧ some b ≠ v.ownBlock) (hlt : b < w.heap.size) : P b ∧ some b ≠ v1.ownBlock := by
  refine ⟨hb.1, ?_⟩
  rcases hat with hat | hat
  · rw [hat]; exact hb.2
  · rw [hat]
    intro he
    injection he with he
    omega
theorem Own.after (h : Own e d (fun b => P b ∧ some b ≠ v.ownBlock) lo w u xs) (hg : w.grownBy w1 v.ownBlock) (hat : v1.ownBlock = v.ownBlock ∨ v1.ownBlock = some w.heap.size) : Own e d (fun b => P b ∧ some b ≠ v1.ownBlock) lo w1 u xs :=
  have h2 : Own e d (fun b => (P b ∧ some b ≠ v1.ownBlock) ∧ (P b ∧ some b ≠ v.ownBlock)) lo w u xs := h.mono fun b hb hlt => ⟨ok_after hat b hb hlt, hb⟩
  (h2.move (fun b hb hlt => hg.block b hlt hb.2.2)).mono fun b hb _ => hb.1
theorem Sl.after (h : Sl bytes d (fun b => P b ∧ some b ≠ v.ownBlock) w A c xs) (hg : w.grownBy w1 v.ownBlock) (hat : v1.ownBlock = v.ownBlock ∨ v1.ownBlock = some w.heap.size) : Sl bytes d (fun b => P b ∧ some b ≠ v1.ownBlock) w1 A c xs :=
  have h2 : Sl bytes d (fun b => (P b ∧ some b ≠ v1.ownBlock) ∧ (P b ∧ some b ≠ v.ownBlock)) w A c xs := h.mono fun b hb hlt => ⟨ok_after hat b hb hlt, hb⟩
  (h2.move (fun b hb hlt => hg.block b hlt hb.2.2)).mono fun b hb _ => hb.1
end
theorem below_all {B : Nat} {w0 w w1 : World} (h : Below B w0 w) (hB : B ≤ w.heap.size) (k : Below w.heap.size w w1) : Below B w0 w1 := h.trans (k.mono hB)
theorem Blk.belowAll {w w1 : World} {g : Nat} {t : TypeId} {cs : Array Value} (h : Blk w g t cs) (k : Below w.heap.size w w1) : Blk w1 g t cs := h.below k h.lt
theorem take_snoc {α : Type} (l : List α) (k : Nat) (h : k < l.length) : l.take (k + 1) = l.take k ++ [l[k]] := by
  rw [List.take_succ_eq_append_getElem h]
theorem Own.lower {α : Type} {e : TypeId} {d : Kn α} {ok : Nat → Prop} {lo lo' : Nat} {w : World} {v : Value} {xs : List α} (h : Own e d ok lo w v xs) (hl : lo' ≤ lo) : Own e d ok lo' w v xs := by
  obtain ⟨h0, cs, ⟨h1, h2⟩, hr⟩ := h
  refine ⟨h0, cs, ⟨h1, ?_⟩, hr⟩
  rcases h2 with h2 | ⟨g, cap, cur, hv, hg, r⟩
  · exact .inl h2
  · exact .inr ⟨g, cap, cur, hv, by omega, r⟩
theorem Own.kp {α : Type} {e : TypeId} {d : Kn α} {ok : Nat → Prop} {lo : Nat} {w w1 : World} {v : Value} {xs : List α} (h : Own e d ok lo w v xs) (k : Kp ok w w1) : Own e d ok lo w1 v xs := h.move k.2
theorem Sl.kp {α : Type} {bytes : Nat} {d : Kn α} {ok : Nat → Prop} {w w1 : World} {A : Option Addr} {c : Nat} {xs : List α} (h : Sl bytes d ok w A c xs) (k : Kp ok w w1) : Sl bytes d ok w1 A c xs := h.move k.2
end Go.Proofs.Ytmeeldcgmfplnaa
