/- PART EvT of a proof by an evaluator of the model that is proved sound. -/
import Derived.Test.YtinbbhlmhknahaaGreatDoorEvI
import Derived.Lib.LaidTab
import Derived.LaidLaws
set_option linter.unusedVariables false
set_option linter.unusedSimpArgs false
namespace Go.Ev
open Go Go.RowKit
/-- The first heap: these tables, each at its variable's number. -/
noncomputable def startT : List (Nat × List Value) → T AObj
  | [] => .leaf
  | (g, tab) :: l => (startT l).set g (.cells tab 0)
def cellsAt (W : World) (g : Nat) : Nat :=
  match W.heap[g]? with
  | some (.cells C _ _) => C.size
  | _ => 0
def startMp (W : World) : Mp := fun g => if g < 4096 then some ⟨g, 0, cellsAt W g⟩ else none
/-- A variable holds just these cells, and may be written nowhere but by stores. -/
def GlobIs (W : World) (g : Nat) (tab : List Value) : Prop := g < 4096 ∧ tab.all flat = true ∧ ∃ C t, W.heap[g]? = some (.cells C t (0, 0)) ∧ C.toList = tab
noncomputable def start (l : List (Nat × List Value)) : St := { heap := startT l, next := 4096, low := 0, mask := ⟨[], none⟩ }
theorem startT_get : ∀ (l : List (Nat × List Value)) (x : Nat) (o : AObj), (startT l).get x = some o → ∃ tab, (x, tab) ∈ l ∧ o = .cells tab 0
  | [], x, o, h => by rw [startT, T.get_leaf] at h; cases h
  | (g, tab) :: l, x, o, h => by
    rw [startT, T.get_set] at h
    by_cases c : x = g
    · rw [if_pos c] at h
      cases h
      exact ⟨tab, by rw [c]; exact List.mem_cons_self, rfl⟩
    · rw [if_neg c] at h
      obtain ⟨tab', h1, h2⟩ := startT_get l x o h
      exact ⟨tab', List.mem_cons_of_mem _ h1, h2⟩
theorem rel_start {ω : Nat → Value} {W : World} {l : List (Nat × List Value)} (h : ∀ g tab, (g, tab) ∈ l → GlobIs W g tab) : Rel ω W.heap.size W (startMp W) (startT l) W := by
  refine ⟨?_, ?_, ?_, ?_, Nat.le_refl _, ⟨rfl, rfl, rfl, Nat.le_refl _, fun b hb => rfl⟩⟩
  · intro x o hx ho
    obtain ⟨tab, hm, rfl⟩ := startT_get l x o hx
    obtain ⟨h4, hf, C, t, hC, htab⟩ := h x tab hm
    have hsz : cellsAt W x = C.size := by unfold cellsAt; rw [hC]
    refine ⟨⟨x, 0, cellsAt W x⟩, by unfold startMp; rw [if_pos h4], ⟨C, t, 0, 0, hC, by dsimp only; omega, .inl rfl⟩, ?_, fun i v hv => ⟨v, ?_, ?_⟩⟩
    · dsimp only; rw [hsz, ← htab]; simp
    · rw [← htab] at hv
      simp only [World.cell?, hC]
      simpa using hv
    · exact VR.refl_flat (List.all_eq_true.1 hf v (List.mem_of_getElem? hv))
  · intro x y o p a b _ _ _ _ hx hy hb
    unfold startMp at hx hy
    by_cases c : x < 4096
    · by_cases d : y < 4096
      · rw [if_pos c] at hx; rw [if_pos d] at hy; cases hx; cases hy; exact hb
      · rw [if_neg d] at hy; cases hy
    · rw [if_neg c] at hx; cases hx
  · intro x o a h4 _ _ hx
    unfold startMp at hx
    rw [if_neg (by omega)] at hx
    cases hx
  · intro g hg
    exact ⟨⟨g, 0, cellsAt W g⟩, by unfold startMp; rw [if_pos hg], rfl, rfl⟩
theorem bd_start {l : List (Nat × List Value)} (h : ∀ g tab, (g, tab) ∈ l → g < 4096) : Bd (start l) := by
  intro x o hx ho
  obtain ⟨tab, hm, _⟩ := startT_get l x o ho
  have := h x tab hm
  have hx' : 4096 ≤ x := hx
  omega
noncomputable def okRun (o : Option (Value × St)) : Bool :=
  match o with
  | some (.bool b, _) => b
  | _ => false
/-- A run of the evaluator's from the start that gives true: the call returns true, and no elder memory has turned. -/
theorem calls_true {P : Program} {ω : Nat → Value} {W : World} {call : FuncId → List Value → E Value} {f : FuncId} {fn : Func} {c : Code} {as ras : List Value} {l : List (Nat × List Value)}
    (hc : CallsOk P ω W.heap.size W call) (hf : P.funcs[f]? = some fn) (hname : (fn.name == "runtime.NumGoroutine") = false) (hb : fn.body = some c)
    (hl : ∀ g tab, (g, tab) ∈ l → GlobIs W g tab) (h : okRun (call f as (start l)) = true) (hvs : VRs ω (startMp W) as ras) :
    Calls P f ras.toArray W fun e W' => e = .returned (.bool true) ∧ Below W.heap.size W W' := by
  cases hr : call f as (start l) with
  | none => rw [hr] at h; cases h
  | some p =>
    obtain ⟨v, s'⟩ := p
    rw [hr] at h
    have hv : v = .bool true := by
      unfold okRun at h
      split at h
      · rename_i b s1 he
        cases he
        rw [h]
      · cases h
    subst hv
    have hcall := hc f as (start l) (.bool true) s' hr (startMp W) W ras (rel_start hl) (bd_start fun g tab hm => (hl g tab hm).1) (Nat.le_refl _) (fun x hx _ => by
      have hx' : 4096 ≤ x := hx
      unfold startMp; rw [if_neg (by omega)]) hvs
    have h1 : fn.name ≠ "runtime.NumGoroutine" := by simpa using hname
    have e : (callFunc f ras.toArray).run P W = .ok (.enter f ras.toArray) W := by simp [callFunc, hf, h1, hb]
    unfold CallR at hcall
    rw [e] at hcall
    refine Calls.mono (R := fun e w' => match e with | .returned u => Post ω W.heap.size W (startMp W) (start l) s' (.bool true) u w' | _ => False) hcall ?_
    intro e W' he
    cases e with
    | returned u =>
      obtain ⟨μ', _, hR, hu⟩ := he
      cases hu
      exact ⟨rfl, hR.below⟩
    | _ => exact he.elim
/-- What the rows' condition says of a listed table of numbers. -/
theorem globIs_of_laid {P : Program} {W : World} {n : String} {g : Nat} {t e : TypeId} {m : Nat} {k : IntKind} {zs : List Int} (hg : P.globalNamed n = some g) (hty : (P.globals[g]?).map (·.type) = some t)
    (ht : P.underlying t = some (.array m e)) (he : P.underlying e = some (.int k)) (hce : P.cellsOf e = 1) (hct : P.cellsOf t = m) (h4 : g < 4096) (hz : 0 < zs.length) :
    ∀ {l : List (String × DataW Unit)}, laidMet P l W → (n, Lib.tabData k zs) ∈ l → GlobIs W g (zs.map fun z => .int k z) := by
  have key : ∀ (l : List (String × DataW Unit)) (ps : List MemPlace), DataW.LaidVars P W l ps → (n, Lib.tabData k zs) ∈ l → ∃ cs, W.var? P n = some cs ∧ cs.toList = zs.map (fun z => Value.int k z) ∧ ∀ x ∈ MemPlace.row ⟨g, 0, none⟩ cs.size, x ∈ ps := by
    intro l
    induction l with
    | nil => intro ps _ hm; cases hm
    | cons a l ih =>
      intro ps hv hm
      obtain ⟨n', d'⟩ := a
      obtain ⟨g', t', cs, fuel, p, q, h1, h2, h3, h5, h6, rfl⟩ := hv
      rcases List.mem_cons.1 hm with e1 | e1
      · cases e1
        obtain rfl := Option.some.inj (hg.symm.trans h1)
        obtain rfl := Option.some.inj (hty.symm.trans h2)
        exact ⟨cs, h3, Lib.cells_of_tab ht he hce hct h5, fun x hx => List.mem_append_left _ (List.mem_append_left _ hx)⟩
      · obtain ⟨cs', k1, k2, k3⟩ := ih q h6 e1
        exact ⟨cs', k1, k2, fun x hx => List.mem_append_right _ (k3 x hx)⟩
  intro l hl hm
  obtain ⟨ps, hv, _, hall⟩ := hl
  obtain ⟨cs, k1, k2, k3⟩ := key l ps hv hm
  have hsz : 0 < cs.size := by
    have := congrArg List.length k2
    simp at this
    omega
  have hmem : MemPlace.cell g 0 ∈ ps := k3 _ (by
    unfold MemPlace.row
    exact List.mem_map.2 ⟨0, List.mem_range.2 hsz, rfl⟩)
  obtain ⟨⟨C, u, hC⟩, _⟩ := hall g 0 hmem
  refine ⟨h4, ?_, C, u, hC, ?_⟩
  · rw [List.all_eq_true]
    intro v hv
    obtain ⟨z, _, rfl⟩ := List.mem_map.1 hv
    rfl
  · simp only [World.var?, hg, Option.bind_some, hC] at k1
    cases k1
    exact k2
end Go.Ev
