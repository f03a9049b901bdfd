/-
  Laws of append in the words of our own: what is appended reads; what it is appended to is the call's own.
-/
import Derived.WalkKit
import Derived.WalkSpells
import Derived.WalkLawsBesides
import Derived.Maps.AppendAt
import Derived.Deep.AppendLies
import Derived.RegionTactic
import Derived.OwnWalk
import Derived.Test.YtmeeldcgmfplnaaTypes
set_option linter.unusedVariables false
set_option linter.unusedSimpArgs false
namespace Go.Proofs.Ytmeeldcgmfplnaa
open Go.RowKit

/-! ### Stores into blocks that are known whole: the world keeps one term a block -/
section
variable (w : World) (g i : Nat) (a : Array Value) (v : Value)
theorem setRow_setCell_same : (w.setRow g a).setCell ⟨g, i, none⟩ v = w.setRow g (a.setIfInBounds i v) := by
  unfold World.setRow World.setCell
  congr 1
  apply Array.ext
  · simp
  · intro k h1 h2
    simp only [Array.getElem_modify]
    split
    · cases w.heap[k]'(by simpa using h1) <;> simp
    · rfl
end
theorem Array.modify_comm' {α : Type} (xs : Array α) (i j : Nat) (f k : α → α) (h : i ≠ j) : (xs.modify i f).modify j k = (xs.modify j k).modify i f := by
  apply Array.ext
  · simp
  · intro n h1 h2
    simp only [Array.getElem_modify]
    split <;> split <;> simp_all
theorem setRow_setCell_other (w : World) (g g' i : Nat) (a : Array Value) (v : Value) (h : g' ≠ g) : (w.setRow g a).setCell ⟨g', i, none⟩ v = (w.setCell ⟨g', i, none⟩ v).setRow g a := by
  unfold World.setRow World.setCell
  simp only
  rw [Array.modify_comm' _ _ _ _ _ (Ne.symm h)]
theorem setRow_cell_same (w : World) (g i : Nat) (a : Array Value) (h : (w.shape? g).isSome = true) : (w.setRow g a).cell? ⟨g, i, none⟩ = a[i]? := by
  unfold World.shape? at h
  split at h
  · rename_i c e fr hg
    exact cell_setRow_same w g i c a e fr hg
  · cases h
theorem setRow_cell_other (w : World) (g g' i : Nat) (a : Array Value) (h : g' ≠ g) : (w.setRow g a).cell? ⟨g', i, none⟩ = w.cell? ⟨g', i, none⟩ := cell_setRow_other w g a ⟨g', i, none⟩ h
theorem setRow_frozen (w : World) (g : Nat) (a : Array Value) (p : Addr) : (w.setRow g a).frozen? p = w.frozen? p := by
  unfold World.setRow World.frozen?
  simp only [Array.getElem?_modify]
  by_cases h : g = p.block
  · subst h
    simp only [if_true]
    cases hh : w.heap[p.block]? with
    | none => rfl
    | some o => cases o <;> rfl
  · simp [h]
theorem setRow_shape (w : World) (g g' : Nat) (a : Array Value) : ((w.setRow g a).shape? g').isSome = (w.shape? g').isSome := by
  unfold World.setRow World.shape?
  simp only [Array.getElem?_modify]
  by_cases h : g = g'
  · subst h
    simp only [if_true]
    cases hh : w.heap[g]? with
    | none => rfl
    | some o => cases o <;> rfl
  · simp [h]
section
variable {w w' : World} {g : Nat} {t : TypeId} {cs : Array Value}
theorem Blk.sets (h : Blk w g t cs) (i : Nat) (v : Value) : w.setCell ⟨g, i, none⟩ v = w.setRow g (cs.setIfInBounds i v) := setCell_eq_setRow w g i cs t (0, 0) v h
theorem Blk.shape (h : Blk w g t cs) : (w.shape? g).isSome = true := by
  unfold Blk at h
  simp [World.shape?, h]
theorem Blk.put (h : Blk w g t cs) (a : Array Value) : Blk (w.setRow g a) g t a := setRow_heap w g cs a t (0, 0) h
theorem Blk.other (h : Blk w g t cs) {g' : Nat} (hn : g ≠ g') (a : Array Value) : Blk (w.setRow g' a) g t cs := (setRow_other w g' g a hn).trans h
theorem Kp.put {ok : Nat → Prop} {w1 : World} (h : Kp ok w w1) {g : Nat} (hp : ∀ b, ok b → b ≠ g) (a : Array Value) : Kp ok w (w1.setRow g a) :=
  ⟨by simpa using h.1, fun b hb hlt => (setRow_other w1 g b a (hp b hb)).trans (h.2 b hb hlt)⟩
theorem below_put {B g : Nat} {w0 w : World} (h : Below B w0 w) (hB : B ≤ g) (a : Array Value) : Below B w0 (w.setRow g a) :=
  ⟨h.os, h.tape, h.output, by simpa using h.size, fun k hk => (setRow_other w g k a (by omega)).trans (h.block k hk)⟩
/-- All that the walk wants of a block: its cells, that none is frozen, what a store makes of it. -/
theorem Blk.all (h : Blk w g t cs) : (∀ i, w.cell? ⟨g, i, none⟩ = cs[i]?) ∧ (∀ i, w.frozen? ⟨g, i, none⟩ = false) ∧ (∀ i v, w.setCell ⟨g, i, none⟩ v = w.setRow g (cs.setIfInBounds i v)) ∧ (w.shape? g).isSome = true :=
  ⟨h.cells, h.free, h.sets, h.shape⟩
end

/-- A slice literal of one element: it reads as this element. -/
theorem C_lit {α : Type} (d : Kn α) {okp : Nat → Prop} {w : World} {p : α} (cs : List Value) (e : TypeId) (h : d.K okp w p cs) :
    d.C (fun b => okp b ∧ b < w.heap.size ∨ b = w.heap.size) (w.alloc (.cells cs.toArray e)) (some ⟨w.heap.size, 0, none⟩) 1 [p] := by
  refine ⟨rfl, fun _ => ⟨_, cs, rfl, .inr rfl, Reps.one ?_ (d.len h), ?_⟩⟩
  · exact d.mono (fun b hb _ => .inl hb) (d.move (ok := fun b => okp b ∧ b < w.heap.size) (fun b hb _ => Below.heap_alloc w _ b hb.2) (d.mono (fun b hb hlt => ⟨hb, hlt⟩) h))
  · exact World.news_of_block (cs := cs.toArray) (t := e) (fr := (0, 0)) (heap_alloc_new w _)

theorem C_litAt {α : Type} (d : Kn α) {okp : Nat → Prop} {w : World} {p : α} (g : Nat) (hg : g = w.heap.size) (cs : List Value) (e : TypeId) (h : d.K okp w p cs) :
    d.C (fun b => okp b ∧ b < g ∨ b = g) (w.alloc (.cells cs.toArray e)) (some ⟨g, 0, none⟩) 1 [p] := by
  subst hg
  exact C_lit d cs e h

section
variable {P : Program} {α : Type}
theorem run_append_of_nil' (w : World) (base : Nat) (t ty e : TypeId) (i : TypeInfo) (size : Nat) (ht : P.underlying t = some (.slice e)) (hi : P.info? e = some i)
    (v : Value) (n : Nat) (xs : List Value) (hown : w.ownsRow base e size v n xs) (c : Nat) : (Builtin.append_ #[t, t] ty #[v, .slice none 0 c]).run P w = .ok v w := by
  rcases hown.2 with ⟨rfl, rfl⟩ | ⟨g, cap, cur, rfl, _, _, hnc, _⟩
  · simp [Builtin.append_, run_underlying ht, sizeOf, typeInfo, hi, Builtin.lenOf, Builtin.firstCells]
  · simp [Builtin.append_, run_underlying ht, sizeOf, typeInfo, hi, Builtin.lenOf, Builtin.firstCells, hnc, storeCells]

theorem run_append_Own (w : World) (d : Kn α) (t ty e : TypeId) (z : Value) (bytes : Nat) (ht : P.underlying t = some (.slice e))
    (hinfo : (P.info? e).map (fun i => (i.zero, i.size, i.bytes)) = some (some z, d.sz, bytes)) (hz : z.cells.size = d.sz) (hb0 : 0 < bytes)
    {ok okp : Nat → Prop} {lo : Nat} {v : Value} {xs ys : List α} (HO : Own e d ok lo w v xs) {A : Option Addr} {m c : Nat} (HC : d.Cf okp w A m ys)
    (hsep : ∀ b, okp b → b < w.heap.size → ok b ∧ some b ≠ v.ownBlock) (hfresh : ∀ b, w.heap.size ≤ b → ok b) (hlo : lo ≤ w.heap.size) (hlen : (xs.length + ys.length) * bytes ≤ 140737488355328) :
    ∃ v' w', (Builtin.append_ #[t, t] ty #[v, .slice A m c]).run P w = .ok v' w' ∧ Own e d ok lo w' v' (xs ++ ys) ∧ w.grownBy w' v.ownBlock ∧ (v'.ownBlock = v.ownBlock ∨ v'.ownBlock = some w.heap.size) := by
  obtain ⟨i, hi, hz0, hz1, hz2⟩ := info_parts hinfo
  obtain ⟨h0, cs, ho, hr⟩ := HO
  have hmax : xs.length + ys.length ≤ maxLen := by
    have := Nat.le_trans (Nat.le_mul_of_pos_right (xs.length + ys.length) hb0) hlen
    simp only [maxLen]; omega
  have hm : ys.length = m := HC.1
  rcases Nat.eq_zero_or_pos m with hm0 | hm0
  · subst hm0
    obtain rfl : ys = [] := List.eq_nil_of_length_eq_zero hm
    rcases A with _ | ad
    · exact ⟨v, w, run_append_of_nil' w lo t ty e i d.sz ht hi v _ cs ho c, by simpa using ⟨h0, cs, ho, hr⟩, World.grownBy.refl w _, .inl rfl⟩
    · obtain ⟨v', w', hrun, h2, h3, _, h5⟩ := run_append_own_at (P := P) w lo t ty e i z d.sz bytes ht hi hz0 hz1 hz2 hz d.pos v xs.length cs ho ad 0 c [] (by simp) (fun j u hu => by simp at hu) (by simp) (by simpa using hmax) (by simpa using hlen) hlo
      refine ⟨v', w', hrun, ?_, h3, h5⟩
      exact Own.appended (ys := []) (okp := okp) h0 hr (Reps.nil _ _) hsep hfresh (by simpa using h2) h3 h5
  · obtain ⟨ad, ds, rfl, hR, hcells⟩ := HC.2 hm0
    obtain ⟨v', w', hrun, h2, h3, _, h5⟩ := run_append_own_at (P := P) w lo t ty e i z d.sz bytes ht hi hz0 hz1 hz2 hz d.pos v xs.length cs ho ad m c ds (by rw [hR.1, hm]) hcells (Kn.C_one hR) (by rw [← hm]; exact hmax) (by rw [← hm]; exact hlen) hlo
    refine ⟨v', w', hrun, ?_, h3, h5⟩
    exact Own.appended h0 hr hR hsep hfresh (by rw [List.length_append, hm]; exact h2) h3 h5

variable {ops : Array Oper} {rest : List Oper} {o : Oper} {a : Act} {Q : Exit → Act → World → Prop}

theorem wp_append_Own {K : Act → World → Prop} (w : World) (d : Kn α) (s x : Operand) (t e : TypeId) (ho : o.op = .call { callee := .builtin .append, args := #[s, x], argTypes := #[t, t] })
    (z : Value) (bytes : Nat) (ht : P.underlying t = some (.slice e))
    (hinfo : (P.info? e).map (fun i => (i.zero, i.size, i.bytes)) = some (some z, d.sz, bytes)) (hz : z.cells.size = d.sz) (hb0 : 0 < bytes)
    {ok okp : Nat → Prop} {lo : Nat} {v : Value} {xs ys : List α} (hs : a.eval s = v) (HO : Own e d ok lo w v xs) {A : Option Addr} {m c : Nat} (hx : a.eval x = .slice A m c) (HC : d.Cf okp w A m ys)
    (hsep : ∀ b, okp b → b < w.heap.size → ok b ∧ some b ≠ v.ownBlock) (hfresh : ∀ b, w.heap.size ≤ b → ok b) (hlo : lo ≤ w.heap.size) (hlen : (xs.length + ys.length) * bytes ≤ 140737488355328)
    (h : ∀ v' w', Own e d ok lo w' v' (xs ++ ys) → w.grownBy w' v.ownBlock → (v'.ownBlock = v.ownBlock ∨ v'.ownBlock = some w.heap.size) → K (a.put o.dst v') w') : o.wp P a w K Q := by
  obtain ⟨v', w', hr, h2, h3, h4⟩ := run_append_Own (P := P) w d t o.type e z bytes ht hinfo hz hb0 HO (c := c) HC hsep hfresh hlo hlen
  unfold Oper.wp execOp
  simp only [ho, resolve, invoke, builtin, Sem.run_bind, Sem.run_pure, Result.andThen_ok, List.map_toArray, List.map_cons, List.map_nil, hs, hx, hr]
  exact h v' w' h2 h3 h4

/-- append(s, x...): x reads, s is the call's own. -/
theorem wpList_append_Own (w : World) (hgd : o.guard = none) (d : Kn α) (s x : Operand) (t e : TypeId) (ho : o.op = .call { callee := .builtin .append, args := #[s, x], argTypes := #[t, t] })
    (z : Value) (bytes : Nat) (ht : P.underlying t = some (.slice e))
    (hinfo : (P.info? e).map (fun i => (i.zero, i.size, i.bytes)) = some (some z, d.sz, bytes)) (hz : z.cells.size = d.sz) (hb0 : 0 < bytes)
    {ok okp : Nat → Prop} {lo : Nat} {v : Value} {xs ys : List α} (hs : a.eval s = v) (HO : Own e d ok lo w v xs) {A : Option Addr} {m c : Nat} (hx : a.eval x = .slice A m c) (HC : d.Cf okp w A m ys)
    (hsep : ∀ b, okp b → b < w.heap.size → ok b ∧ some b ≠ v.ownBlock) (hfresh : ∀ b, w.heap.size ≤ b → ok b) (hlo : lo ≤ w.heap.size) (hlen : (xs.length + ys.length) * bytes ≤ 140737488355328)
    (h : ∀ v' w', Own e d ok lo w' v' (xs ++ ys) → w.grownBy w' v.ownBlock → (v'.ownBlock = v.ownBlock ∨ v'.ownBlock = some w.heap.size) → wpList P ops Q rest (a.put o.dst v') w') : wpList P ops Q (o :: rest) a w :=
  wpList_plain hgd fun _ hK => wp_append_Own w d s x t e ho z bytes ht hinfo hz hb0 hs HO hx HC hsep hfresh hlo hlen fun v' w' h2 h3 h4 => hK _ _ (h v' w' h2 h3 h4)

theorem step_append_Own {K : Act → World → Prop} {E : Prop} (w : World) (hgd : o.guard = none) (d : Kn α) (s x : Operand) (t e : TypeId) (ho : o.op = .call { callee := .builtin .append, args := #[s, x], argTypes := #[t, t] })
    (z : Value) (bytes : Nat) (ht : P.underlying t = some (.slice e))
    (hinfo : (P.info? e).map (fun i => (i.zero, i.size, i.bytes)) = some (some z, d.sz, bytes)) (hz : z.cells.size = d.sz) (hb0 : 0 < bytes)
    {ok okp : Nat → Prop} {lo : Nat} {v : Value} {xs ys : List α} (hs : a.eval s = v) (HO : Own e d ok lo w v xs) {A : Option Addr} {m c : Nat} (hx : a.eval x = .slice A m c) (HC : d.Cf okp w A m ys)
    (hsep : ∀ b, okp b → b < w.heap.size → ok b ∧ some b ≠ v.ownBlock) (hfresh : ∀ b, w.heap.size ≤ b → ok b) (hlo : lo ≤ w.heap.size) (hlen : (xs.length + ys.length) * bytes ≤ 140737488355328)
    (h : ∀ v' w', Own e d ok lo w' v' (xs ++ ys) → w.grownBy w' v.ownBlock → (v'.ownBlock = v.ownBlock ∨ v'.ownBlock = some w.heap.size) → K (a.put o.dst v') w') :
    if Region.wanted o (yielded ops a.tmps) = true then Oper.wp P o a w K Q else E := by
  have hw : Region.wanted o (yielded ops a.tmps) = true := by simp [Region.wanted, hgd]
  rw [if_pos hw]
  exact wp_append_Own w d s x t e ho z bytes ht hinfo hz hb0 hs HO hx HC hsep hfresh hlo hlen h
end

/-! ### What a method through a pointer turns: the struct's block, one row, and what is new -/
/-- Of what was there no block has turned but g and the row. -/
structure Turn (g : Nat) (row : Option Nat) (w w' : World) : Prop where
  os : w'.os = w.os
  tape : w'.tape = w.tape
  output : w'.output = w.output
  size : w.heap.size ≤ w'.heap.size
  block : ∀ k, k < w.heap.size → k ≠ g → some k ≠ row → w'.heap[k]? = w.heap[k]?

section
variable {g : Nat} {row row1 : Option Nat} {w w1 w2 : World}
theorem Turn.refl (g : Nat) (row : Option Nat) (w : World) : Turn g row w w := ⟨rfl, rfl, rfl, Nat.le_refl _, fun _ _ _ _ => rfl⟩
theorem Turn.below (h : Turn g row w w1) (hb : Below w1.heap.size w1 w2) : Turn g row w w2 :=
  ⟨hb.os.trans h.os, hb.tape.trans h.tape, hb.output.trans h.output, Nat.le_trans h.size hb.size, fun k hk hg hr => (hb.block k (by have := h.size; omega)).trans (h.block k hk hg hr)⟩
theorem Turn.alloc (h : Turn g row w w1) (o : Obj) : Turn g row w (w1.alloc o) := h.below ((Below.refl _ _).alloc (Nat.le_refl _) o)
theorem Turn.drew (h : Turn g row w w1) : Turn g row w w1.drew := ⟨h.os, h.tape, h.output, h.size, h.block⟩
theorem Turn.put (h : Turn g row w w1) (a : Array Value) : Turn g row w (w1.setRow g a) :=
  ⟨h.os, h.tape, h.output, by simpa using h.size, fun k hk hg hr => (setRow_other w1 g k a hg).trans (h.block k hk hg hr)⟩
theorem Turn.putNew (h : Turn g row w w1) {g' : Nat} (hg' : w.heap.size ≤ g') (a : Array Value) : Turn g row w (w1.setRow g' a) :=
  ⟨h.os, h.tape, h.output, by simpa using h.size, fun k hk hg hr => (setRow_other w1 g' k a (by omega)).trans (h.block k hk hg hr)⟩
theorem Turn.grown (h : Turn g row w w1) (hg : w1.grownBy w2 row1) (hr : row1 = row ∨ ∀ b, row1 = some b → w.heap.size ≤ b) : Turn g row w w2 :=
  ⟨hg.os.trans h.os, hg.tape.trans h.tape, hg.output.trans h.output, Nat.le_trans h.size hg.size, fun k hk hgk hrk => (hg.block k (by have := h.size; omega) (by
    rcases hr with hr | hr
    · rw [hr]; exact hrk
    · intro e
      have := hr k e.symm
      omega)).trans (h.block k hk hgk hrk)⟩
theorem Turn.trans (h : Turn g row w w1) (k : Turn g row1 w1 w2) (hr : row1 = row ∨ ∀ b, row1 = some b → w.heap.size ≤ b) : Turn g row w w2 :=
  ⟨k.os.trans h.os, k.tape.trans h.tape, k.output.trans h.output, Nat.le_trans h.size k.size, fun b hb hg hrb => (k.block b (by have := h.size; omega) hg (by
    rcases hr with hr | hr
    · rw [hr]; exact hrb
    · intro e
      have := hr b e.symm
      omega)).trans (h.block b hb hg hrb)⟩
theorem Turn.kp (h : Turn g row w w1) {ok : Nat → Prop} (hok : ∀ b, ok b → b ≠ g ∧ some b ≠ row) : Kp ok w w1 := ⟨h.size, fun b hb hlt => h.block b hlt (hok b hb).1 (hok b hb).2⟩
theorem Turn.toBelow (h : Turn g row w w1) {B : Nat} (hB : B ≤ w.heap.size) (hg : B ≤ g) (hr : ∀ b, row = some b → B ≤ b) : Below B w w1 :=
  ⟨h.os, h.tape, h.output, h.size, fun k hk => h.block k (by omega) (by omega) (fun e => by have := hr k e.symm; omega)⟩
theorem Turn.blk (h : Turn g row w w1) {b : Nat} {t : TypeId} {cs : Array Value} (hb : Blk w b t cs) (h1 : b ≠ g) (h2 : some b ≠ row) : Blk w1 b t cs := (h.block b hb.lt h1 h2).trans hb
end

/-- The row's block: the same as before, or a new one. -/
def AtOrNew (v v' : Value) (n : Nat) : Prop := v'.ownBlock = v.ownBlock ∨ ∀ b, v'.ownBlock = some b → n ≤ b
theorem AtOrNew.refl (v : Value) (n : Nat) : AtOrNew v v n := .inl rfl
theorem AtOrNew.trans {v v1 v2 : Value} {n m : Nat} (h : AtOrNew v v1 n) (k : AtOrNew v1 v2 m) (hm : n ≤ m) : AtOrNew v v2 n := by
  rcases k with k | k
  · rcases h with h | h
    · exact .inl (k.trans h)
    · exact .inr fun b hb => h b (k ▸ hb)
  · exact .inr fun b hb => Nat.le_trans hm (k b hb)
theorem AtOrNew.of {v v' : Value} {n : Nat} (h : v'.ownBlock = v.ownBlock ∨ v'.ownBlock = some n) : AtOrNew v v' n := by
  rcases h with h | h
  · exact .inl h
  · exact .inr fun b hb => by rw [h] at hb; injection hb with hb; omega
/-- What lies apart from the row (and was there) lies apart from it afterwards. -/
theorem AtOrNew.ne {v v' : Value} {n b : Nat} (h : AtOrNew v v' n) (hb : some b ≠ v.ownBlock) (hlt : b < n) : some b ≠ v'.ownBlock := by
  rcases h with h | h
  · rw [h]; exact hb
  · intro e
    have := h b e.symm
    omega

/-! ### Results the first of which lies in memory -/
section
variable {P : Program} {fn : Func} {p u v : Tmp} {ty : TypeId}
theorem res_ct (h : fn.results = #[.cell p ty, .tmp u]) (tmps : Array Value) (w : World) (g : Nat) (t : TypeId) (cs : Array Value) (d : TypeDesc) (hp : tmps.getD p undef = .pointer (some ⟨g, 0, none⟩)) (hb : Blk w g t cs)
    (hu : P.underlying ty = some d) (hd : (match d with | .struct _ | .array _ _ => true | _ => false) = true) (hi : (P.info? ty).map (·.size) = some cs.size) :
    (results fn tmps).run P w = .ok (.tuple #[.agg cs, tmps.getD u undef]) w := by
  have hp' : tmps[p]?.getD undef = .pointer (some ⟨g, 0, none⟩) := by simpa using hp
  simp [results, h, hp', asAddr, run_loadVar_row w g t ty cs (0, 0) d hb hu hd hi]
theorem res_ctt (h : fn.results = #[.cell p ty, .tmp u, .tmp v]) (tmps : Array Value) (w : World) (g : Nat) (t : TypeId) (cs : Array Value) (d : TypeDesc) (hp : tmps.getD p undef = .pointer (some ⟨g, 0, none⟩)) (hb : Blk w g t cs)
    (hu : P.underlying ty = some d) (hd : (match d with | .struct _ | .array _ _ => true | _ => false) = true) (hi : (P.info? ty).map (·.size) = some cs.size) :
    (results fn tmps).run P w = .ok (.tuple #[.agg cs, tmps.getD u undef, tmps.getD v undef]) w := by
  have hp' : tmps[p]?.getD undef = .pointer (some ⟨g, 0, none⟩) := by simpa using hp
  simp [results, h, hp', asAddr, run_loadVar_row w g t ty cs (0, 0) d hb hu hd hi]
end
end Go.Proofs.Ytmeeldcgmfplnaa
