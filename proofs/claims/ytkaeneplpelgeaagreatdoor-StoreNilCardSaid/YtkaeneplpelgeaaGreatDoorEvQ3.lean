/- PART EvQ3 of a proof by an evaluator of the model that is proved sound. -/
import Derived.Test.YtkaeneplpelgeaaGreatDoorEvQ2
set_option linter.unusedVariables false
set_option linter.unusedSimpArgs false
namespace Go.Ev
open Go Go.RowKit
section ops
variable {P : Program} {ω : Nat → Value} {B : Nat} {W0 : World} {μ : Mp} {w : World} {s s' : St} {call : FuncId → List Value → E Value} {ρ ρ' : Operand → Value}

/-- Filling a row: alike parts give alike rows. -/
theorem foldl_set_VRs {x x' : List Value} (hx : VRs ω μ x x') : ∀ (k off : Nat) (c c' : Array Value), VRs ω μ c.toList c'.toList →
    VRs ω μ ((x.zipIdx k).foldl (fun cs p => cs.setIfInBounds (off + p.2) p.1) c).toList ((x'.zipIdx k).foldl (fun cs p => cs.setIfInBounds (off + p.2) p.1) c').toList := by
  induction x generalizing x' with
  | nil =>
    intro k off c c' hc
    have : x' = [] := List.length_eq_zero_iff.1 hx.1.symm
    subst this; exact hc
  | cons v x ih =>
    intro k off c c' hc
    cases x' with
    | nil => have := hx.1; simp at this
    | cons v' x' =>
      have hv : VR ω μ v v' := hx.2 0 v v' rfl rfl
      have hxs : VRs ω μ x x' := ⟨by have := hx.1; simpa using this, fun i a b e e' => hx.2 (i + 1) a b (by simpa using e) (by simpa using e')⟩
      simp only [List.zipIdx_cons, List.foldl_cons]
      refine ih hxs (k + 1) off _ _ ⟨by simp [hc.1], fun i a b e e' => ?_⟩
      simp only [Array.toList_setIfInBounds, List.getElem?_set] at e e'
      by_cases hi : off + k = i
      · rw [if_pos hi] at e e'
        by_cases h1 : off + k < c.toList.length
        · have h2 : off + k < c'.toList.length := by rw [← hc.1]; exact h1
          rw [if_pos h1] at e; rw [if_pos h2] at e'
          cases e; cases e'; exact hv
        · rw [if_neg h1] at e; cases e
      · rw [if_neg hi] at e e'
        exact hc.2 i a b e e'
theorem fill_ok {pl : Nat → Option (Nat × Nat)} : ∀ {ps ps' : List (Nat × Value)} {c c' r : Array Value}, Instr.fill pl c ps = some r → ps.length = ps'.length →
    (∀ (i : Nat) (a b : Nat × Value), ps[i]? = some a → ps'[i]? = some b → a.1 = b.1 ∧ VRs ω μ a.2.cells.toList b.2.cells.toList) → VRs ω μ c.toList c'.toList → ∃ r', Instr.fill pl c' ps' = some r' ∧ VRs ω μ r.toList r'.toList := by
  intro ps
  induction ps with
  | nil =>
    intro ps' c c' r h hl _ hc
    have : ps' = [] := List.length_eq_zero_iff.1 hl.symm
    subst this
    simp only [Instr.fill, Option.some.injEq] at h
    subst h
    exact ⟨c', rfl, hc⟩
  | cons p ps ih =>
    intro ps' c c' r h hl hp hc
    obtain ⟨i, v⟩ := p
    cases ps' with
    | nil => simp at hl
    | cons p' ps' =>
      obtain ⟨i', v'⟩ := p'
      obtain ⟨hi, hv⟩ := hp 0 (i, v) (i', v') rfl rfl
      dsimp only at hi hv
      subst hi
      simp only [Instr.fill] at h ⊢
      cases hpl : pl i with
      | none => rw [hpl] at h; cases h
      | some oz =>
        obtain ⟨off, size⟩ := oz
        rw [hpl] at h
        dsimp only at h ⊢
        have hsz : v.cells.size = v'.cells.size := by have := hv.1; simpa using this
        have hcs : c.size = c'.size := by have := hc.1; simpa using this
        rw [← hsz, ← hcs]
        split at h
        · cases h
        · rename_i hcond
          rw [if_neg hcond]
          refine ih h (by simpa using hl) (fun j a b e e' => hp (j + 1) a b (by simpa using e) (by simpa using e')) ?_
          have this := foldl_set_VRs (ω := ω) (μ := μ) hv 0 off c c' hc
          have e : ∀ (u : Value) (d : Array Value), Array.foldl (fun cs (x : Value × Nat) => cs.setIfInBounds (off + x.2) x.1) d u.cells.zipIdx = (u.cells.toList.zipIdx 0).foldl (fun cs p => cs.setIfInBounds (off + p.2) p.1) d := fun u d => by
            rw [← Array.foldl_toList, Array.toList_zipIdx]
          show VRs ω μ (Array.foldl (fun cs (x : Value × Nat) => cs.setIfInBounds (off + x.2) x.1) c v.cells.zipIdx).toList (Array.foldl (fun cs (x : Value × Nat) => cs.setIfInBounds (off + x.2) x.1) c' v'.cells.zipIdx).toList
          rw [e, e]
          exact this
theorem parts_ok (hω : ∀ k, (ω k).oneCell' = true) (hρ : ∀ x, VR ω μ (ρ x) (ρ' x)) (ps : List (Nat × Operand)) (hj : ps.all (fun p => notJunk (ρ p.2)) = true) :
    ∀ (i : Nat) (a b : Nat × Value), (ps.map fun (i, x) => (i, ρ x))[i]? = some a → (ps.map fun (i, x) => (i, ρ' x))[i]? = some b → a.1 = b.1 ∧ VRs ω μ a.2.cells.toList b.2.cells.toList := by
  intro i a b e e'
  simp only [List.getElem?_map] at e e'
  cases hp : ps[i]? with
  | none => rw [hp] at e; cases e
  | some p =>
    rw [hp] at e e'
    cases e; cases e'
    refine ⟨rfl, (hρ p.2).cells hω ?_⟩
    have := List.all_eq_true.1 hj p (List.mem_of_getElem? hp)
    intro e; rw [e] at this; cases this
theorem places_run {t : TypeId} {v0 : Value} {pl : Nat → Option (Nat × Nat)} (h : places? P t = some pl) (w : World) (zero : Array Value) (parts : Array (Nat × Value)) {cells : Array Value} (hz : zero? P t = some v0) (hzc : v0.cells = zero) (hf : Instr.fill pl zero parts.toList = some cells) :
    (Instr.build t parts).run P w = .ok (.agg cells) w := by
  unfold places? at h
  split at h
  · rename_i fs hu
    cases hm : evalPure P (fs.mapM fun f => do pure (f.offset, ← sizeOf f.type)) with
    | none => rw [hm] at h; cases h
    | some ps =>
      rw [hm] at h
      cases h
      have := evalPure_run hm w
      unfold Instr.build
      rw [Sem.run_bind, run_zero w hz, Result.andThen_ok]
      dsimp only
      rw [Sem.run_bind, run_und w hu, Result.andThen_ok]
      dsimp only
      rw [Sem.run_bind, this, Result.andThen_ok, hzc]
      rw [show Instr.fill (fun x => ps[x]?) zero parts.toList = some cells from hf]
      rfl
  · rename_i n e hu
    cases hs : size? P e with
    | none => rw [hs] at h; cases h
    | some z =>
      rw [hs] at h
      cases h
      simp [Instr.build, run_zero w hz, run_und w hu, hzc, run_size w hs, hf]
  · cases h
theorem armBuild_ok {t : TypeId} {ps : Array (Nat × Operand)} {v : Value} (hω : ∀ k, (ω k).oneCell' = true) (h : armBuild t ps P call ρ s = some (v, s')) (hρ : ∀ x, VR ω μ (ρ x) (ρ' x)) (hR : Rel ω B W0 μ s.heap w) :
    Gives P (Instr.build t (ps.map fun (i, x) => (i, ρ' x))) w (Post ω B W0 μ s s' v) := by
  unfold armBuild at h
  obtain ⟨z, s1, h1, h2⟩ := bind_inv h
  obtain ⟨hz, rfl⟩ := opt_inv h1
  obtain ⟨pl, s2, h3, h4⟩ := bind_inv h2
  obtain ⟨hpl, rfl⟩ := opt_inv h3
  obtain ⟨hg, h5⟩ := guard_inv' h4
  simp only [Bool.and_eq_true] at hg
  obtain ⟨hg1, hg2⟩ := hg
  obtain ⟨cells, s3, h6, h7⟩ := bind_inv h5
  obtain ⟨hfl, rfl⟩ := opt_inv h6
  obtain ⟨rfl, rfl⟩ := pure_inv h7
  obtain ⟨r', hr', hv⟩ := fill_ok (ω := ω) (μ := μ) (c' := z.cells) hfl (ps' := ps.toList.map fun (i, x) => (i, ρ' x)) (by simp) (parts_ok hω hρ ps.toList hg2) (VRs.refl_flat hg1)
  refine Gives.of_run (a := .agg r') (w' := w) ?_ (Post.same hR ?_)
  · exact places_run hpl w z.cells _ hz rfl (by simpa using hr')
  · have := VR.agg_of hv
    simpa using this
end ops
end Go.Ev
