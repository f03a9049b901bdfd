/- PART EvQ9 of a proof by an evaluator of the model that is proved sound. -/
import Derived.Test.YtkaeneplpelgeaaGreatDoorEvQ8
set_option linter.unusedVariables false
set_option linter.unusedSimpArgs false
namespace Go.Ev
open Go Go.RowKit
section ops
variable {P : Program} {ω : Nat → Value} {B : Nat} {W0 : World} {μ : Mp} {w : World} {s s' : St} {call : FuncId → List Value → E Value} {ρ ρ' : Operand → Value}
theorem doLen_ok {ts : Array TypeId} {ty : TypeId} {x x' v : Value} (h : doLen P ts x s = some (v, s')) (hx : VR ω μ x x') (hR : Rel ω B W0 μ s.heap w) :
    Gives P (Builtin.len_ ts ty #[x']) w (Post ω B W0 μ s s' v) := by
  unfold doLen at h
  obtain ⟨t, s0, h0, h00⟩ := bind_inv h
  obtain ⟨hts, rfl⟩ := opt_inv h0
  obtain ⟨d, s1, h1, h2⟩ := bind_inv h00
  obtain ⟨hu, rfl⟩ := opt_inv h1
  obtain ⟨mm, hmm, hh⟩ := app h2
  clear h2
  split at hmm <;> subst hmm
  · obtain ⟨rfl, rfl⟩ := pure_inv hh
    cases hx
    refine Gives.of_run ?_ (Post.same hR (.int _ _))
    unfold Builtin.len_; simp only [hts, List.getElem?_toArray, List.getElem?_cons_zero]; rw [Sem.run_bind, run_und w hu, Result.andThen_ok]; rfl
  · obtain ⟨rfl, rfl⟩ := pure_inv hh
    refine Gives.of_run ?_ (Post.same hR (.int _ _))
    unfold Builtin.len_; simp only [hts, List.getElem?_toArray, List.getElem?_cons_zero]; rw [Sem.run_bind, run_und w hu, Result.andThen_ok]; rfl
  · obtain ⟨rfl, rfl⟩ := pure_inv hh
    cases hx <;> (refine Gives.of_run ?_ (Post.same hR (.int _ _)); unfold Builtin.len_; simp only [hts, List.getElem?_toArray, List.getElem?_cons_zero]; rw [Sem.run_bind, run_und w hu, Result.andThen_ok]; rfl)
  · obtain ⟨es, s2, h3, h4⟩ := bind_inv hh
    obtain ⟨rfl, es', hers, hes⟩ := entries_ok h3 hx hR
    obtain ⟨rfl, rfl⟩ := pure_inv h4
    have hl : es.length = es'.size := by simpa using hers.1
    rcases hes with ⟨e1, rfl⟩ | ⟨r, kk, e1, hb⟩
    · refine Gives.of_run (a := goInt es.length) (w' := w) ?_ (Post.same hR (.int _ _))
      unfold Builtin.len_; simp only [hts, List.getElem?_toArray, List.getElem?_cons_zero]; rw [Sem.run_bind, run_und w hu, Result.andThen_ok]
      rw [e1, hl]; rfl
    · refine Gives.of_run (a := goInt es.length) (w' := w) ?_ (Post.same hR (.int _ _))
      unfold Builtin.len_; simp only [hts, List.getElem?_toArray, List.getElem?_cons_zero]; rw [Sem.run_bind, run_und w hu, Result.andThen_ok]
      rw [e1]
      dsimp only
      rw [Sem.run_bind, run_getMap hb, hl]
      rfl
  · cases hh
theorem armMakeMap_ok {t : TypeId} {hn : Option Operand} {v : Value} (h : armMakeMap t hn P call ρ s = some (v, s')) (hρ : ∀ x, VR ω μ (ρ x) (ρ' x)) (hR : Rel ω B W0 μ s.heap w) (h4 : 4096 ≤ s.next) (hf : Fresh μ s.next s'.next) :
    Gives P (Instr.makeMap t (hn.map ρ')) w (Post ω B W0 μ s s' v) := by
  unfold armMakeMap at h
  have fin : ∀ {s s' : St} {v : Value}, ((do pure (.map (some (← nw (.map [] 0)))) : E Value)) s = some (v, s') → Rel ω B W0 μ s.heap w → 4096 ≤ s.next → Fresh μ s.next s'.next →
      Post ω B W0 μ s s' v (.map (some w.heap.size)) (w.alloc (.map #[] 0)) := by
    intro s s' v h hR h4 hf
    obtain ⟨n, s1, h1, h2⟩ := bind_inv h
    obtain ⟨rfl, rfl⟩ := nw_inv h1
    obtain ⟨rfl, rfl⟩ := pure_inv h2
    obtain ⟨μ', he, hr, hm⟩ := nw_ok (R := .map #[] 0) (room := 0) (o := .map [] 0) hR h4 (hf _ (Nat.le_refl _) (by dsimp only; omega)) (fun μ' hx => by
      refine ObjR.map_of (es' := #[]) ?_ ⟨rfl, fun i e e' h => by simp at h⟩
      show (w.heap.push _)[w.heap.size]? = _; rw [Array.getElem?_push, if_pos rfl])
    exact ⟨μ', he, hr, .map _ _ hm⟩
  cases hn with
  | none => exact Gives.of_run (a := .map (some w.heap.size)) (w' := w.alloc (.map #[] 0)) rfl (fin h hR h4 hf)
  | some x =>
    dsimp only at h
    have hx := hρ x
    obtain ⟨mm, hmm, hh⟩ := app h
    clear h
    split at hmm <;> subst hmm
    · rename_i key e k n hu hrx
      rw [hrx] at hx
      refine Gives.of_run (a := .map (some w.heap.size)) (w' := w.alloc (.map #[] 0)) ?_ (fin hh hR h4 hf)
      simp only [Option.map_some]
      rw [VR.flat rfl hx]
      unfold Instr.makeMap
      simp only [Sem.run_bind, run_und w hu, Result.andThen_ok, asInt, asIntOf, Sem.run_pure]
      rfl
    · cases hh
theorem armRange_ok {t : TypeId} {x : Operand} {v : Value} (h : armRange t x P call ρ s = some (v, s')) (hρ : ∀ x, VR ω μ (ρ x) (ρ' x)) (hR : Rel ω B W0 μ s.heap w) (h4 : 4096 ≤ s.next) (hf : Fresh μ s.next s'.next) :
    Gives P (Instr.range t (ρ' x)) w (Post ω B W0 μ s s' v) := by
  unfold armRange at h
  obtain ⟨d, s1, h1, h2⟩ := bind_inv h
  obtain ⟨hu, rfl⟩ := opt_inv h1
  have hx := hρ x
  obtain ⟨mm, hmm, hh⟩ := app h2
  clear h2
  have fin : ∀ {s s' : St} {v : Value} {m : Option Nat} {m' : Option Nat} {a b : Nat}, ((do pure (ptr (← nw (.iter m a [] b)) 0) : E Value)) s = some (v, s') → Rel ω B W0 μ s.heap w → 4096 ≤ s.next → Fresh μ s.next s'.next →
      (match m, m' with | none, none => True | some x, some r => ∃ k, μ x = some k ∧ k.blk = r | _, _ => False) → Post ω B W0 μ s s' v (.pointer (some ⟨w.heap.size, 0, none⟩)) (w.alloc (.mapIter m' a #[] b)) := by
    intro s s' v m m' a b h hR h4 hf hm
    obtain ⟨n, s1, h1, h2⟩ := bind_inv h
    obtain ⟨rfl, rfl⟩ := nw_inv h1
    obtain ⟨rfl, rfl⟩ := pure_inv h2
    obtain ⟨μ', he, hr, hmm⟩ := nw_ok (R := .mapIter m' a #[] b) (room := 0) (o := .iter m a [] b) hR h4 (hf _ (Nat.le_refl _) (by dsimp only; omega)) (fun μ' hx => by
      refine ⟨rfl, m', ?_, ?_⟩
      · show (w.heap.push _)[w.heap.size]? = _; rw [Array.getElem?_push, if_pos rfl]
      · cases m <;> cases m' <;> first | exact hm | skip
        obtain ⟨k, hk, hkb⟩ := hm
        exact ⟨k, hx _ _ hk, hkb⟩)
    refine ⟨μ', he, hr, ?_⟩
    have := VR.ptr (ω := ω) s.next 0 _ hmm
    simpa [ptr] using this
  split at hmm <;> subst hmm
  · rename_i k e hrx
    rw [hrx] at hx
    generalize ρ' x = u at hx ⊢
    cases hx
    refine Gives.of_run (a := .pointer (some ⟨w.heap.size, 0, none⟩)) (w' := w.alloc (.mapIter none 0 #[] 0)) ?_ (fin (m' := none) hh hR h4 hf trivial)
    unfold Instr.range
    rw [Sem.run_bind, run_und w hu, Result.andThen_ok]
    rfl
  · rename_i k e m hrx
    obtain ⟨⟨es, clock⟩, s2, h3, h5⟩ := bind_inv hh
    obtain ⟨rfl, hmk, hg⟩ := rdMap_inv h3
    dsimp only at h5 hg
    obtain ⟨l, es', hl, hb, hers⟩ := hR.map hg
    rw [hrx] at hx
    generalize ρ' x = u at hx ⊢
    cases hx with
    | map _ l' hl' =>
      have e0 : l' = l := by rw [hl'] at hl; cases hl; rfl
      subst e0
      refine Gives.of_run (a := .pointer (some ⟨w.heap.size, 0, none⟩)) (w' := w.alloc (.mapIter (some l'.blk) clock #[] clock)) ?_ (fin (m' := some l'.blk) h5 hR h4 hf ⟨l', hl', rfl⟩)
      unfold Instr.range
      rw [Sem.run_bind, run_und w hu, Result.andThen_ok]
      dsimp only
      rw [Sem.run_bind, run_getMap hb]
      rfl
  · cases hh
theorem among_contains (l : List Nat) (x : Nat) : among l x = l.toArray.contains x := by
  rw [List.contains_toArray]
  induction l with
  | nil => rfl
  | cons a l ih =>
    rw [among, ih, List.contains_cons]
    congr 1
    by_cases h : a = x
    · subst h; simp
    · rw [show Nat.beq a x = false from by rw [beq_dec]; exact decide_eq_false h]
      symm; exact beq_eq_false_iff_ne.2 (fun e => h e.symm)
theorem filter_ERs {a b : List MapEntry} (h : ERs ω μ a b) (p : Nat → Bool) : ERs ω μ (a.filter fun e => p e.born) (b.filter fun e => p e.born) := by
  induction a generalizing b with
  | nil => have : b = [] := List.length_eq_zero_iff.1 h.1.symm; subst this; exact h
  | cons e a ih =>
    cases b with
    | nil => have := h.1; simp at this
    | cons e' b =>
      obtain ⟨⟨h1, h2, h3⟩, h4⟩ := h.tail
      have ih := ih h4
      rw [List.filter_cons, List.filter_cons, ← h2]
      by_cases hp : p e.born = true
      · rw [if_pos hp, if_pos hp]
        refine ⟨by simp [ih.1], fun i x y ex ey => ?_⟩
        cases i with
        | zero => simp at ex ey; subst ex; subst ey; exact ⟨h1, h2, h3⟩
        | succ i => simp at ex ey; exact ih.2 i x y ex ey
      · rw [if_neg hp, if_neg hp]; exact ih
theorem all_ERs {a b : List MapEntry} (h : ERs ω μ a b) (p : Nat → Bool) : (a.all fun e => p e.born) = b.all fun e => p e.born := by
  induction a generalizing b with
  | nil => have : b = [] := List.length_eq_zero_iff.1 h.1.symm; subst this; rfl
  | cons e a ih =>
    cases b with
    | nil => have := h.1; simp at this
    | cons e' b =>
      obtain ⟨⟨h1, h2, h3⟩, h4⟩ := h.tail
      simp only [List.all_cons, h2, ih h4]
end ops
end Go.Ev
