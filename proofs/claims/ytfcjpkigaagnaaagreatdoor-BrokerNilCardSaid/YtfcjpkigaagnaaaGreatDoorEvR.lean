/- PART EvR of a proof by an evaluator of the model that is proved sound. -/
import Derived.Test.YtfcjpkigaagnaaaGreatDoorEvFr
import Derived.Below
import Derived.Laws.IdiomCopy
import Derived.Laws.Cells
import Derived.Deep.MidRow
import Derived.Deep.Upon
set_option linter.unusedVariables false
set_option linter.unusedSimpArgs false
namespace Go.Ev
open Go Go.RowKit

/-- Where an object of the evaluator's lies. -/
structure Loc where
  blk : Nat
  off : Nat
  room : Nat
abbrev Mp := Nat → Option Loc

/-- A value of the evaluator's, and the value that it stands for. -/
inductive VR (ω : Nat → Value) (μ : Mp) : Value → Value → Prop
  | bool (b : Bool) : VR ω μ (.bool b) (.bool b)
  | int (k : IntKind) (n : Int) : VR ω μ (.int k n) (.int k n)
  | float (k : FloatKind) (b : Nat) : VR ω μ (.float k b) (.float k b)
  | complex (k : FloatKind) (a b : Nat) : VR ω μ (.complex k a b) (.complex k a b)
  | string (s : ByteArray) : VR ω μ (.string s) (.string s)
  | ptrNil : VR ω μ (.pointer none) (.pointer none)
  | ptr (x off : Nat) (l : Loc) (h : μ x = some l) : VR ω μ (.pointer (some ⟨x, off, none⟩)) (.pointer (some ⟨l.blk, l.off + off, none⟩))
  | box (x sp : Nat) (l : Loc) (h : μ x = some l) (h0 : l.off = 0) : VR ω μ (.pointer (some ⟨x, 0, some sp⟩)) (.pointer (some ⟨l.blk, 0, none⟩))
  | sliceNil : VR ω μ (.slice none 0 0) (.slice none 0 0)
  | slice (x off n z k : Nat) (l : Loc) (h : μ x = some l) (hk : n ≤ k) (hr : off + k * z ≤ l.room) : VR ω μ (.slice (some ⟨x, off, none⟩) n z) (.slice (some ⟨l.blk, l.off + off, none⟩) n k)
  | sliceEmpty (x off z : Nat) (a : Addr) : VR ω μ (.slice (some ⟨x, off, none⟩) 0 z) (.slice (some a) 0 0)
  | sliceZero (x off sp z : Nat) (a : Addr) : VR ω μ (.slice (some ⟨x, off, some sp⟩) 0 z) (.slice (some a) 0 0)
  | mapNil : VR ω μ (.map none) (.map none)
  | map (x : Nat) (l : Loc) (h : μ x = some l) : VR ω μ (.map (some x)) (.map (some l.blk))
  | func (fn : Fn) (a b a' b' : Array Value) (ha : a.size = a'.size) (hb : b.size = b'.size)
      (hav : ∀ (i : Nat) (v v' : Value), a[i]? = some v → a'[i]? = some v' → VR ω μ v v') (hbv : ∀ (i : Nat) (v v' : Value), b[i]? = some v → b'[i]? = some v' → VR ω μ v v') : VR ω μ (.func fn a b) (.func fn a' b')
  | nilFunc : VR ω μ .nilFunc .nilFunc
  | iface (t : TypeId) (v v' : Value) (h : VR ω μ v v') : VR ω μ (.iface t v) (.iface t v')
  | nilIface : VR ω μ .nilIface .nilIface
  | agg (a a' : Array Value) (ha : a.size = a'.size) (hv : ∀ (i : Nat) (v v' : Value), a[i]? = some v → a'[i]? = some v' → VR ω μ v v') : VR ω μ (.agg a) (.agg a')
  | tuple (a a' : Array Value) (ha : a.size = a'.size) (hv : ∀ (i : Nat) (v v' : Value), a[i]? = some v → a'[i]? = some v' → VR ω μ v v') : VR ω μ (.tuple a) (.tuple a')
  | unknown (k : Nat) : VR ω μ (.chan (some k)) (ω k)
  | junk (v : Value) : VR ω μ (.chan none) v

/-- Lists of values. -/
def VRs (ω : Nat → Value) (μ : Mp) (a b : List Value) : Prop := a.length = b.length ∧ ∀ (i : Nat) (v v' : Value), a[i]? = some v → b[i]? = some v' → VR ω μ v v'

section
variable {ω : Nat → Value} {μ μ' : Mp}
theorem VR.ext (h : ∀ x l, μ x = some l → μ' x = some l) {v v' : Value} (hv : VR ω μ v v') : VR ω μ' v v' := by
  induction hv with
  | bool b => exact .bool b
  | int k n => exact .int k n
  | float k b => exact .float k b
  | complex k a b => exact .complex k a b
  | string s => exact .string s
  | ptrNil => exact .ptrNil
  | ptr x off l hl => exact .ptr x off l (h _ _ hl)
  | box x sp l hl h0 => exact .box x sp l (h _ _ hl) h0
  | sliceNil => exact .sliceNil
  | slice x off n z k l hl hk hr => exact .slice x off n z k l (h _ _ hl) hk hr
  | sliceEmpty x off z a => exact .sliceEmpty x off z a
  | sliceZero x off sp z a => exact .sliceZero x off sp z a
  | mapNil => exact .mapNil
  | map x l hl => exact .map x l (h _ _ hl)
  | func fn a b a' b' ha hb _ _ iha ihb => exact .func fn a b a' b' ha hb iha ihb
  | nilFunc => exact .nilFunc
  | iface t v v' _ ih => exact .iface t v v' ih
  | nilIface => exact .nilIface
  | agg a a' ha _ ih => exact .agg a a' ha ih
  | tuple a a' ha _ ih => exact .tuple a a' ha ih
  | unknown k => exact .unknown k
  | junk v => exact .junk v
theorem VRs.ext (h : ∀ x l, μ x = some l → μ' x = some l) {a b : List Value} (hv : VRs ω μ a b) : VRs ω μ' a b := ⟨hv.1, fun i v v' e e' => (hv.2 i v v' e e').ext h⟩
theorem VRs.nil : VRs ω μ [] [] := ⟨rfl, fun i v v' h => by simp at h⟩
theorem VRs.cons {v v' : Value} {a b : List Value} (h : VR ω μ v v') (hs : VRs ω μ a b) : VRs ω μ (v :: a) (v' :: b) := by
  refine ⟨by simp [hs.1], fun i x x' e e' => ?_⟩
  cases i with
  | zero => simp at e e'; subst e; subst e'; exact h
  | succ i => simp at e e'; exact hs.2 i x x' e e'
theorem VRs.append {a b a' b' : List Value} (h : VRs ω μ a b) (h' : VRs ω μ a' b') : VRs ω μ (a ++ a') (b ++ b') := by
  refine ⟨by simp [h.1, h'.1], fun i x x' e e' => ?_⟩
  rw [List.getElem?_append] at e e'
  rw [← h.1] at e'
  split at e
  · rename_i hlt; rw [if_pos hlt] at e'; exact h.2 i x x' e e'
  · rename_i hlt; rw [if_neg hlt] at e'; exact h'.2 _ x x' e e'
theorem VRs.get {a b : List Value} (h : VRs ω μ a b) {i : Nat} {v : Value} (e : a[i]? = some v) : ∃ v', b[i]? = some v' ∧ VR ω μ v v' := by
  have hi : i < a.length := (List.getElem?_eq_some_iff.1 e).1
  have hb : b[i]? = some (b[i]'(h.1 ▸ hi)) := List.getElem?_eq_getElem _
  exact ⟨_, hb, h.2 i _ _ e hb⟩
theorem VRs.drop {a b : List Value} (h : VRs ω μ a b) (n : Nat) : VRs ω μ (a.drop n) (b.drop n) := ⟨by simp [h.1], fun i v v' e e' => h.2 (n + i) v v' (by simpa using e) (by simpa using e')⟩
theorem VRs.take {a b : List Value} (h : VRs ω μ a b) (n : Nat) : VRs ω μ (a.take n) (b.take n) := by
  refine ⟨by simp [h.1], fun i v v' e e' => ?_⟩
  rw [List.getElem?_take] at e e'
  split at e
  · rename_i hlt; rw [if_pos hlt] at e'; exact h.2 i v v' e e'
  · cases e
theorem VR.flat {v v' : Value} (hf : Go.Ev.flat v = true) (h : VR ω μ v v') : v' = v := by
  cases h <;> first | rfl | (simp [Go.Ev.flat] at hf)
theorem VR.refl_flat {v : Value} (hf : Go.Ev.flat v = true) : VR ω μ v v := by
  unfold Go.Ev.flat at hf
  split at hf <;> first | (cases hf; done) | constructor
theorem VR.refl_flatC {v : Value} (hf : flatC v = true) : VR ω μ v v := by
  unfold flatC at hf
  split at hf
  · rename_i cs
    refine .agg _ _ rfl fun i x x' e e' => ?_
    rw [e] at e'
    cases e'
    exact VR.refl_flat (List.all_eq_true.1 hf x (by simpa using Array.mem_of_getElem? e))
  · exact VR.refl_flat hf
theorem VRs.refl_flat {l : List Value} (h : l.all Go.Ev.flat = true) : VRs ω μ l l := ⟨rfl, fun i v v' e e' => by
  rw [e] at e'; cases e'; exact VR.refl_flat (List.all_eq_true.1 h v (List.mem_of_getElem? e))⟩
theorem VRs.flat {l l' : List Value} (h : l.all Go.Ev.flat = true) (hv : VRs ω μ l l') : l' = l := by
  refine List.ext_getElem? fun i => ?_
  cases e : l[i]? with
  | none => rw [List.getElem?_eq_none_iff] at e ⊢; rw [← hv.1]; exact e
  | some v =>
    obtain ⟨v', e', hr⟩ := hv.get e
    rw [e', VR.flat (List.all_eq_true.1 h v (List.mem_of_getElem? e)) hr]
theorem VRs.of_arrays {a a' : Array Value} (hs : a.size = a'.size) (hv : ∀ (i : Nat) (v v' : Value), a[i]? = some v → a'[i]? = some v' → VR ω μ v v') : VRs ω μ a.toList a'.toList :=
  ⟨by simpa using hs, fun i v v' e e' => hv i v v' (by simpa using e) (by simpa using e')⟩
theorem VR.agg_of {a a' : List Value} (h : VRs ω μ a a') : VR ω μ (.agg a.toArray) (.agg a'.toArray) := .agg _ _ (by simp [h.1]) fun i v v' e e' => h.2 i v v' (by simpa using e) (by simpa using e')
theorem VR.tuple_of {a a' : List Value} (h : VRs ω μ a a') : VR ω μ (.tuple a.toArray) (.tuple a'.toArray) := .tuple _ _ (by simp [h.1]) fun i v v' e e' => h.2 i v v' (by simpa using e) (by simpa using e')
theorem VR.undef : VR ω μ undef undef := .tuple _ _ rfl fun i v v' e => by simp at e
/-- The cells of a value. -/
theorem VR.cells {v v' : Value} (h : VR ω μ v v') (hω : ∀ k, (ω k).oneCell' = true) (hj : v ≠ .chan none) : VRs ω μ v.cells.toList v'.cells.toList := by
  have one : ∀ {u u' : Value}, VR ω μ u u' → VRs ω μ [u] [u'] := fun h => VRs.cons h VRs.nil
  cases h with
  | agg a a' ha hv => exact VRs.of_arrays ha hv
  | unknown k =>
    have : (ω k).cells = #[ω k] := by have := hω k; cases hk : ω k <;> first | rfl | (rw [hk] at this; cases this)
    rw [this]
    exact one (.unknown k)
  | junk v => exact absurd rfl hj
  | tuple a a' ha hv => exact one (.tuple a a' ha hv)
  | bool b => exact one (.bool b)
  | int k n => exact one (.int k n)
  | float k b => exact one (.float k b)
  | complex k a b => exact one (.complex k a b)
  | string s => exact one (.string s)
  | ptrNil => exact one .ptrNil
  | ptr x off l hl => exact one (.ptr x off l hl)
  | box x sp l hl h0 => exact one (.box x sp l hl h0)
  | sliceNil => exact one .sliceNil
  | slice x off n z k l hl hk hr => exact one (.slice x off n z k l hl hk hr)
  | sliceEmpty x off z a => exact one (.sliceEmpty x off z a)
  | sliceZero x off sp z a => exact one (.sliceZero x off sp z a)
  | mapNil => exact one .mapNil
  | map x l hl => exact one (.map x l hl)
  | func fn a b a' b' ha hb h1 h2 => exact one (.func fn a b a' b' ha hb h1 h2)
  | nilFunc => exact one .nilFunc
  | iface t v v' h => exact one (.iface t v v' h)
  | nilIface => exact one .nilIface
theorem VR.one {v v' : Value} (h : VR ω μ v v') (hω : ∀ k, (ω k).oneCell' = true) (ho : Go.Ev.one v = true) : v'.oneCell' = true := by
  cases h <;> first | rfl | (exact hω _) | (simp [Go.Ev.one] at ho)
end

/-- A row of so many cells, none of which is marked. -/
def Row (w : World) (b n : Nat) : Prop := ∃ C e lo hi, w.heap[b]? = some (.cells C e (lo, hi)) ∧ C.size = n ∧ (lo = hi ∨ n ≤ lo)
theorem Row.some {w : World} {b n i : Nat} (h : Row w b n) (hi : i < n) : (w.cell? ⟨b, i, none⟩).isSome = true := by
  obtain ⟨C, e, lo, hi', hb, hs, hf⟩ := h
  subst hs
  simp only [World.cell?, hb]
  simp [Array.getElem?_eq_getElem hi]
theorem Row.free {w : World} {b n i : Nat} (h : Row w b n) (hi : i < n) : w.frozen? ⟨b, i, none⟩ = false := by
  obtain ⟨C, e, lo, hi', hb, hs, hf⟩ := h
  simp only [World.frozen?, hb]
  rcases hf with hf | hf
  · subst hf; simp only [Bool.and_eq_false_iff, decide_eq_false_iff_not]; omega
  · simp only [Bool.and_eq_false_iff, decide_eq_false_iff_not]; omega
theorem Row.shape {w : World} {b n : Nat} (h : Row w b n) : ∃ e, w.shape? b = Option.some (e, n) := by
  obtain ⟨C, e, lo, hi', hb, hs, hf⟩ := h
  exact ⟨e, by simp only [World.shape?, hb, hs]⟩
theorem Row.lt {w : World} {b n : Nat} (h : Row w b n) : b < w.heap.size := by
  obtain ⟨C, e, lo, hi', hb, hs, hf⟩ := h
  by_cases hlt : b < w.heap.size
  · exact hlt
  · rw [Array.getElem?_eq_none (by omega)] at hb; cases hb
theorem Row.setCell {w : World} {b n : Nat} (h : Row w b n) (a : Addr) (v : Value) : Row (w.setCell a v) b n := by
  obtain ⟨C, e, lo, hi', hb, hs, hf⟩ := h
  by_cases hab : a.block = b
  · refine ⟨if a.spot.isSome then C else C.setIfInBounds a.off v, e, lo, hi', ?_, ?_, hf⟩
    · simp only [World.setCell, Array.getElem?_modify, if_pos hab, hb, Option.map_some]
    · split <;> simp [hs]
  · refine ⟨C, e, lo, hi', ?_, hs, hf⟩
    rw [Below.heap_setCell _ _ _ _ (fun e => hab e.symm)]; exact hb
theorem Row.setCells {b n : Nat} (k : Nat) : ∀ (vs : List Value) (o : Nat) {w : World}, Row w b n → Row (w.setCells k o vs) b n
  | [], _, _, h => h
  | _ :: r, _, _, h => Row.setCells k r _ (h.setCell _ _)
/-- An object of the evaluator's, and what lies where it lies. -/
def ObjR (ω : Nat → Value) (μ : Mp) (w : World) (l : Loc) : AObj → Prop
  | .cells c _ => Row w l.blk (l.off + l.room) ∧ c.length ≤ l.room ∧ (∀ i v, c[i]? = some v → ∃ u, w.cell? ⟨l.blk, l.off + i, none⟩ = some u ∧ VR ω μ v u)
  | .map es k => ∃ es', w.heap[l.blk]? = some (.map es' k) ∧ es.length = es'.size ∧ ∀ (i : Nat) (e e' : MapEntry), es[i]? = some e → es'[i]? = some e' → e.key = e'.key ∧ e.born = e'.born ∧ VR ω μ e.val e'.val
  | .iter m since seen stepped => l.off = 0 ∧ ∃ m', w.heap[l.blk]? = some (.mapIter m' since seen.toArray stepped) ∧ (match m, m' with
      | none, none => True
      | some x, some r => ∃ k, μ x = some k ∧ k.blk = r
      | _, _ => False)
  | .dead => True

structure Rel (ω : Nat → Value) (B : Nat) (W0 : World) (μ : Mp) (H : T AObj) (w : World) : Prop where
  obj : ∀ x o, H.get x = some o → o ≠ .dead → ∃ l, μ x = some l ∧ ObjR ω μ w l o
  inj : ∀ x y o p l k, H.get x = some o → o ≠ .dead → H.get y = some p → p ≠ .dead → μ x = some l → μ y = some k → l.blk = k.blk → x = y
  own : ∀ x o l, 4096 ≤ x → H.get x = some o → o ≠ .dead → μ x = some l → B ≤ l.blk
  glob : ∀ g, g < 4096 → ∃ l, μ g = some l ∧ l.blk = g ∧ l.off = 0
  base : B ≤ W0.heap.size
  below : Below B W0 w
/-- The map of places has grown, by new numbers from a to b alone. -/
def Ext (μ μ' : Mp) (a b : Nat) : Prop := (∀ x l, μ x = some l → μ' x = some l) ∧ (∀ x, μ x = none → ¬ (a ≤ x ∧ x < b) → μ' x = none)
theorem Ext.refl (μ : Mp) (a b : Nat) : Ext μ μ a b := ⟨fun _ _ h => h, fun _ h _ => h⟩
theorem Ext.trans {μ μ' μ'' : Mp} {a b c : Nat} (h : Ext μ μ' a b) (h' : Ext μ' μ'' b c) (hab : a ≤ b) (hbc : b ≤ c) : Ext μ μ'' a c :=
  ⟨fun x l e => h'.1 x l (h.1 x l e), fun x e hn => h'.2 x (h.2 x e (by omega)) (by omega)⟩
/-- No place yet for the numbers from a to b. -/
def Fresh (μ : Mp) (a b : Nat) : Prop := ∀ x, a ≤ x → x < b → μ x = none
theorem Fresh.after {μ μ' : Mp} {a b c : Nat} (hf : Fresh μ a c) (h : Ext μ μ' a b) (hab : a ≤ b) : Fresh μ' b c := fun x h1 h2 => h.2 x (hf x (by omega) h2) (by omega)
theorem Fresh.before {μ : Mp} {a b c : Nat} (hf : Fresh μ a c) (hbc : b ≤ c) : Fresh μ a b := fun x h1 h2 => hf x h1 (by omega)

section
variable {ω : Nat → Value} {B : Nat} {W0 : World} {μ μ' : Mp} {H H' : T AObj} {w w' : World}
theorem ObjR.ext (h : ∀ x l, μ x = some l → μ' x = some l) {l : Loc} {o : AObj} (ho : ObjR ω μ w l o) : ObjR ω μ' w l o := by
  cases o with
  | cells c e => exact ⟨ho.1, ho.2.1, fun i v hv => let ⟨u, hu, hr⟩ := ho.2.2 i v hv; ⟨u, hu, hr.ext h⟩⟩
  | map es k =>
    obtain ⟨es', hb, hs, hv⟩ := ho
    exact ⟨es', hb, hs, fun i e e' h1 h2 => let ⟨a, b, c⟩ := hv i e e' h1 h2; ⟨a, b, c.ext h⟩⟩
  | iter m since seen st =>
    obtain ⟨h0, m', hb, hm⟩ := ho
    refine ⟨h0, m', hb, ?_⟩
    cases m <;> cases m' <;> first | exact hm | skip
    obtain ⟨k, hk, hkb⟩ := hm
    exact ⟨k, h _ _ hk, hkb⟩
  | dead => trivial
theorem ObjR.block {l : Loc} {o : AObj} (hb : w'.heap[l.blk]? = w.heap[l.blk]?) (ho : ObjR ω μ w l o) : ObjR ω μ w' l o := by
  cases o with
  | cells c e =>
    refine ⟨?_, ho.2.1, fun i v hv => ?_⟩
    · obtain ⟨C, e, lo, hi, h1, h2⟩ := ho.1
      exact ⟨C, e, lo, hi, by rw [hb]; exact h1, h2⟩
    · obtain ⟨u, hu, hr⟩ := ho.2.2 i v hv
      exact ⟨u, by rw [← hu]; exact World.cell?_of_block hb, hr⟩
  | map es k => obtain ⟨es', h1, h2⟩ := ho; exact ⟨es', by rw [hb]; exact h1, h2⟩
  | iter m since seen st => obtain ⟨h0, m', h1, h2⟩ := ho; exact ⟨h0, m', by rw [hb]; exact h1, h2⟩
  | dead => trivial
theorem Rel.congr (h : Rel ω B W0 μ H w) (hg : ∀ x o, H'.get x = some o → o ≠ .dead → H.get x = some o) : Rel ω B W0 μ H' w :=
  ⟨fun x o hx ho => h.obj x o (hg x o hx ho) ho, fun x y o p l k hx ho hy hp => h.inj x y o p l k (hg x o hx ho) ho (hg y p hy hp) hp, fun x o l h4 hx ho => h.own x o l h4 (hg x o hx ho) ho, h.glob, h.base, h.below⟩
theorem Rel.size (h : Rel ω B W0 μ H w) : B ≤ w.heap.size := Nat.le_trans h.base h.below.size
theorem Rel.drawn (h : Rel ω B W0 μ H w) (n : Nat) : Rel ω B W0 μ H { w with drawn := n } :=
  ⟨fun x o hx ho => let ⟨l, hl, hr⟩ := h.obj x o hx ho; ⟨l, hl, hr.block rfl⟩, h.inj, h.own, h.glob, h.base, ⟨h.below.os, h.below.tape, h.below.output, h.below.size, h.below.block⟩⟩
theorem Rel.kill (h : Rel ω B W0 μ H w) (x : Nat) : Rel ω B W0 μ (H.set x .dead) w := h.congr fun y o hy ho => by
  by_cases e : y = x
  · rw [e, T.get_set_self] at hy; cases hy; exact absurd rfl ho
  · rwa [T.get_set_ne _ _ e] at hy
/-- A block in which a live object of the call's own lies has turned, and what lies there is known. -/
theorem Rel.turn (h : Rel ω B W0 μ H w) {x : Nat} {o o' : AObj} {l : Loc} (h4 : 4096 ≤ x) (hx : H.get x = some o) (ho : o ≠ .dead) (hl : μ x = some l)
    (hos : w'.os = w.os) (htape : w'.tape = w.tape) (hout : w'.output = w.output) (hsize : w.heap.size ≤ w'.heap.size)
    (hoth : ∀ b, b < w.heap.size → b ≠ l.blk → w'.heap[b]? = w.heap[b]?) (hnew : o' ≠ .dead → ObjR ω μ w' l o') : Rel ω B W0 μ (H.set x o') w' := by
  have hB := h.own x o l h4 hx ho hl
  have hlt : ∀ y p k, H.get y = some p → p ≠ .dead → μ y = some k → k.blk < w.heap.size := by
    intro y p k hy hp hk
    obtain ⟨k', hk', hr⟩ := h.obj y p hy hp
    rw [hk] at hk'; cases hk'
    cases p with
    | cells c e =>
      exact hr.1.lt
    | map es c =>
      obtain ⟨es', he, _⟩ := hr
      by_cases hlt : k.blk < w.heap.size
      · exact hlt
      · rw [Array.getElem?_eq_none (by omega)] at he; simp at he
    | iter m a b c =>
      obtain ⟨_, m', he, _⟩ := hr
      by_cases hlt : k.blk < w.heap.size
      · exact hlt
      · rw [Array.getElem?_eq_none (by omega)] at he; simp at he
    | dead => exact absurd rfl hp
  refine ⟨?_, ?_, ?_, h.glob, h.base, ⟨hos.trans h.below.os, htape.trans h.below.tape, hout.trans h.below.output, Nat.le_trans h.below.size hsize, fun b hb => ?_⟩⟩
  · intro y p hy hp
    by_cases e : y = x
    · subst e
      rw [T.get_set_self] at hy; cases hy
      exact ⟨l, hl, hnew hp⟩
    · rw [T.get_set_ne _ _ e] at hy
      obtain ⟨k, hk, hr⟩ := h.obj y p hy hp
      refine ⟨k, hk, hr.block (hoth _ (hlt y p k hy hp hk) fun he => e ?_)⟩
      exact h.inj y x p o k l hy hp hx ho hk hl he
  · intro y z p q k m hy hp hz hq hk hm hb
    have live : ∀ {y p}, (H.set x o').get y = some p → p ≠ .dead → ∃ p', H.get y = some p' ∧ p' ≠ .dead := by
      intro y p hy hp
      by_cases e : y = x
      · exact ⟨o, by rw [e]; exact hx, ho⟩
      · exact ⟨p, by rwa [T.get_set_ne _ _ e] at hy, hp⟩
    obtain ⟨p', h1, h2⟩ := live hy hp
    obtain ⟨q', h3, h5⟩ := live hz hq
    exact h.inj y z p' q' k m h1 h2 h3 h5 hk hm hb
  · intro y p k h4y hy hp hk
    by_cases e : y = x
    · subst e; rw [hl] at hk; cases hk; exact hB
    · rw [T.get_set_ne _ _ e] at hy; exact h.own y p k h4y hy hp hk
  · rw [hoth b (by have := h.size; omega) (by omega)]; exact h.below.block b hb
/-- A new object, in a block that no live object lies in, from B on. -/
theorem Rel.anew (h : Rel ω B W0 μ H w) {x : Nat} {o : AObj} {l : Loc} (h4 : 4096 ≤ x) (hx : μ x = none)
    (hos : w'.os = w.os) (htape : w'.tape = w.tape) (hout : w'.output = w.output) (hsize : w.heap.size ≤ w'.heap.size) (hB : B ≤ l.blk)
    (hoth : ∀ b, b < w.heap.size → b ≠ l.blk → w'.heap[b]? = w.heap[b]?)
    (hfree : ∀ y p k, H.get y = some p → p ≠ .dead → μ y = some k → k.blk ≠ l.blk)
    (hnew : ObjR ω (fun y => if y = x then some l else μ y) w' l o) : Rel ω B W0 (fun y => if y = x then some l else μ y) (H.set x o) w' := by
  have hm : ∀ y k, μ y = some k → (fun y => if y = x then some l else μ y) y = some k := by
    intro y k hk
    dsimp only
    by_cases e : y = x
    · rw [e, hx] at hk; cases hk
    · rw [if_neg e]; exact hk
  have hm2 : ∀ y k, y ≠ x → (fun y => if y = x then some l else μ y) y = some k → μ y = some k := by
    intro y k e hk
    dsimp only at hk
    rwa [if_neg e] at hk
  have hlt : ∀ y p k, H.get y = some p → p ≠ .dead → μ y = some k → k.blk < w.heap.size := by
    intro y p k hy hp hk
    obtain ⟨k', hk', hr⟩ := h.obj y p hy hp
    rw [hk] at hk'; cases hk'
    cases p with
    | cells c e =>
      exact hr.1.lt
    | map es c =>
      obtain ⟨es', he, _⟩ := hr
      by_cases hlt : k.blk < w.heap.size
      · exact hlt
      · rw [Array.getElem?_eq_none (by omega)] at he; simp at he
    | iter m a b c =>
      obtain ⟨_, m', he, _⟩ := hr
      by_cases hlt : k.blk < w.heap.size
      · exact hlt
      · rw [Array.getElem?_eq_none (by omega)] at he; simp at he
    | dead => exact absurd rfl hp
  refine ⟨?_, ?_, ?_, fun g hg => let ⟨k, hk, hr⟩ := h.glob g hg; ⟨k, hm g k hk, hr⟩, h.base, ⟨hos.trans h.below.os, htape.trans h.below.tape, hout.trans h.below.output, Nat.le_trans h.below.size hsize, fun b hb => ?_⟩⟩
  · intro y p hy hp
    by_cases e : y = x
    · subst e
      rw [T.get_set_self] at hy; cases hy
      exact ⟨l, by simp, hnew⟩
    · rw [T.get_set_ne _ _ e] at hy
      obtain ⟨k, hk, hr⟩ := h.obj y p hy hp
      exact ⟨k, hm y k hk, (hr.block (hoth _ (hlt y p k hy hp hk) (hfree y p k hy hp hk))).ext hm⟩
  · intro y z p q k m hy hp hz hq hk hm' hb
    by_cases e : y = x
    · by_cases e' : z = x
      · rw [e, e']
      · rw [T.get_set_ne _ _ e'] at hz
        have hk' : k = l := by subst e; simpa using hk.symm
        exact absurd (by rw [← hb, hk']) (hfree z q m hz hq (hm2 z m e' hm'))
    · rw [T.get_set_ne _ _ e] at hy
      by_cases e' : z = x
      · have hk' : m = l := by subst e'; simpa using hm'.symm
        exact absurd (by rw [hb, hk']) (hfree y p k hy hp (hm2 y k e hk))
      · rw [T.get_set_ne _ _ e'] at hz
        exact h.inj y z p q k m hy hp hz hq (hm2 y k e hk) (hm2 z m e' hm') hb
  · intro y p k h4y hy hp hk
    by_cases e : y = x
    · have : k = l := by subst e; simpa using hk.symm
      rw [this]; exact hB
    · rw [T.get_set_ne _ _ e] at hy; exact h.own y p k h4y hy hp (hm2 y k e hk)
  · rw [hoth b (by have := h.size; omega) (by omega)]; exact h.below.block b hb
theorem Rel.blk_lt (h : Rel ω B W0 μ H w) {y : Nat} {p : AObj} {k : Loc} (hy : H.get y = some p) (hp : p ≠ .dead) (hk : μ y = some k) : k.blk < w.heap.size := by
  obtain ⟨k', hk', hr⟩ := h.obj y p hy hp
  rw [hk] at hk'; cases hk'
  cases p with
  | cells c e =>
    exact hr.1.lt
  | map es c =>
    obtain ⟨es', he, _⟩ := hr
    by_cases hlt : k.blk < w.heap.size
    · exact hlt
    · rw [Array.getElem?_eq_none (by omega)] at he; simp at he
  | iter m a b c =>
    obtain ⟨_, m', he, _⟩ := hr
    by_cases hlt : k.blk < w.heap.size
    · exact hlt
    · rw [Array.getElem?_eq_none (by omega)] at he; simp at he
  | dead => exact absurd rfl hp
/-- A new block at the heap's end. -/
theorem Rel.alloc (h : Rel ω B W0 μ H w) {x room : Nat} {o : AObj} {R : Obj} (h4 : 4096 ≤ x) (hx : μ x = none)
    (hnew : ObjR ω (fun y => if y = x then some ⟨w.heap.size, 0, room⟩ else μ y) (w.alloc R) ⟨w.heap.size, 0, room⟩ o) :
    Rel ω B W0 (fun y => if y = x then some ⟨w.heap.size, 0, room⟩ else μ y) (H.set x o) (w.alloc R) :=
  h.anew (w' := w.alloc R) (l := ⟨w.heap.size, 0, room⟩) h4 hx rfl rfl rfl (by show w.heap.size ≤ (w.heap.push R).size; rw [Array.size_push]; omega) h.size (fun b hb _ => by show (w.heap.push R)[b]? = _; rw [Array.getElem?_push, if_neg (by omega)])
    (fun y p k hy hp hk => by have := h.blk_lt hy hp hk; exact Nat.ne_of_lt this) hnew
theorem Ext.one {x a b : Nat} {l : Loc} (hx : μ x = none) (h1 : a ≤ x) (h2 : x < b) : Ext μ (fun y => if y = x then some l else μ y) a b := by
  refine ⟨fun y k hk => ?_, fun y hy hn => ?_⟩
  · dsimp only
    by_cases e : y = x
    · rw [e, hx] at hk; cases hk
    · rw [if_neg e]; exact hk
  · dsimp only
    rw [if_neg (by omega)]; exact hy
/-- What a new row of cells is. -/
theorem ObjR.newCells {c : List Value} {u : List Value} {e e' : TypeId} {room : Nat} {μ : Mp} (hs : VRs ω μ c u) {rest : List Value} (hroom : room = u.length + rest.length) :
    ObjR ω μ (w.alloc (.cells (u ++ rest).toArray e')) ⟨w.heap.size, 0, room⟩ (.cells c e) := by
  have hb : (w.alloc (.cells (u ++ rest).toArray e')).heap[w.heap.size]? = some (.cells (u ++ rest).toArray e') := by show (w.heap.push _)[w.heap.size]? = _; rw [Array.getElem?_push, if_pos rfl]
  refine ⟨⟨_, e', 0, 0, hb, ?_, .inl rfl⟩, ?_, fun i v hv => ?_⟩
  · simp; omega
  · dsimp only; rw [hs.1, hroom]; omega
  · obtain ⟨v', hv', hr⟩ := hs.get hv
    refine ⟨v', ?_, hr⟩
    simp only [World.cell?, hb]
    have hi : i < u.length := (List.getElem?_eq_some_iff.1 hv').1
    simp [List.getElem?_append_left hi, hv']
end
end Go.Ev
