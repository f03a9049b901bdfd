/- PART EvT of a proof by an evaluator of the model that is proved sound. -/
import Derived.Test.YtfcjpkigaagnaaaGreatDoorEvI
import Derived.Lib.LaidTab
import Derived.LaidLaws
set_option linter.unusedVariables false
set_option linter.unusedSimpArgs false
namespace Go.Ev
open Go Go.RowKit
/-- The first heap: these tables, each at its variable's number. -/
noncomputable def startT : List (Nat × List Value) → T AObj
  | [] => .leaf
  | (g, tab) :: l => (startT l).set g (.cells tab 0)
def cellsAt (W : World) (g : Nat) : Nat :=
  match W.heap[g]? with
  | some (.cells C _ _) => C.size
  | _ => 0
def startMp (W : World) : Mp := fun g => if g < 4096 then some ⟨g, 0, cellsAt W g⟩ else none
/-- A variable holds what these cells stand for, and may be written nowhere but by stores. -/
def GlobIs (ω : Nat → Value) (W : World) (g : Nat) (tab : List Value) : Prop := g < 4096 ∧ ∃ C t, W.heap[g]? = some (.cells C t (0, 0)) ∧ ∀ μ : Mp, VRs ω μ tab C.toList
noncomputable def start (l : List (Nat × List Value)) : St := { heap := startT l, next := 4096, low := 0, mask := ⟨[], none⟩ }
theorem startT_get : ∀ (l : List (Nat × List Value)) (x : Nat) (o : AObj), (startT l).get x = some o → ∃ tab, (x, tab) ∈ l ∧ o = .cells tab 0
  | [], x, o, h => by rw [startT, T.get_leaf] at h; cases h
  | (g, tab) :: l, x, o, h => by
    rw [startT, T.get_set] at h
    by_cases c : x = g
    · rw [if_pos c] at h
      cases h
      exact ⟨tab, by rw [c]; exact List.mem_cons_self, rfl⟩
    · rw [if_neg c] at h
      obtain ⟨tab', h1, h2⟩ := startT_get l x o h
      exact ⟨tab', List.mem_cons_of_mem _ h1, h2⟩
theorem rel_start {ω : Nat → Value} {W : World} {l : List (Nat × List Value)} (h : ∀ g tab, (g, tab) ∈ l → GlobIs ω W g tab) : Rel ω W.heap.size W (startMp W) (startT l) W := by
  refine ⟨?_, ?_, ?_, ?_, Nat.le_refl _, ⟨rfl, rfl, rfl, Nat.le_refl _, fun b hb => rfl⟩⟩
  · intro x o hx ho
    obtain ⟨tab, hm, rfl⟩ := startT_get l x o hx
    obtain ⟨h4, C, t, hC, htab⟩ := h x tab hm
    have hsz : cellsAt W x = C.size := by unfold cellsAt; rw [hC]
    have hlen : tab.length = C.size := by have := (htab (startMp W)).1; simpa using this
    refine ⟨⟨x, 0, cellsAt W x⟩, by unfold startMp; rw [if_pos h4], ⟨C, t, 0, 0, hC, by dsimp only; omega, .inl rfl⟩, by dsimp only; omega, fun i v hv => ?_⟩
    obtain ⟨u, hu, hr⟩ := (htab (startMp W)).get hv
    refine ⟨u, ?_, hr⟩
    simp only [World.cell?, hC]
    simpa using hu
  · intro x y o p a b _ _ _ _ hx hy hb
    unfold startMp at hx hy
    by_cases c : x < 4096
    · by_cases d : y < 4096
      · rw [if_pos c] at hx; rw [if_pos d] at hy; cases hx; cases hy; exact hb
      · rw [if_neg d] at hy; cases hy
    · rw [if_neg c] at hx; cases hx
  · intro x o a h4 _ _ hx
    unfold startMp at hx
    rw [if_neg (by omega)] at hx
    cases hx
  · intro g hg
    exact ⟨⟨g, 0, cellsAt W g⟩, by unfold startMp; rw [if_pos hg], rfl, rfl⟩
theorem bd_start {l : List (Nat × List Value)} (h : ∀ g tab, (g, tab) ∈ l → g < 4096) : Bd (start l) := by
  intro x o hx ho
  obtain ⟨tab, hm, _⟩ := startT_get l x o ho
  have := h x tab hm
  have hx' : 4096 ≤ x := hx
  omega
noncomputable def okRun (o : Option (Value × St)) : Bool :=
  match o with
  | some (.bool b, _) => b
  | _ => false
/-- A run of the evaluator's from the start that gives true: the call returns true, and no elder memory has turned. -/
theorem calls_true {P : Program} {ω : Nat → Value} {W : World} {call : FuncId → List Value → E Value} {f : FuncId} {fn : Func} {c : Code} {as ras : List Value} {l : List (Nat × List Value)}
    (hc : CallsOk P ω W.heap.size W call) (hf : P.funcs[f]? = some fn) (hname : (fn.name == "runtime.NumGoroutine") = false) (hb : fn.body = some c)
    (hl : ∀ g tab, (g, tab) ∈ l → GlobIs ω W g tab) (h : okRun (call f as (start l)) = true) (hvs : VRs ω (startMp W) as ras) :
    Calls P f ras.toArray W fun e W' => e = .returned (.bool true) ∧ Below W.heap.size W W' := by
  cases hr : call f as (start l) with
  | none => rw [hr] at h; cases h
  | some p =>
    obtain ⟨v, s'⟩ := p
    rw [hr] at h
    have hv : v = .bool true := by
      unfold okRun at h
      split at h
      · rename_i b s1 he
        cases he
        rw [h]
      · cases h
    subst hv
    have hcall := hc f as (start l) (.bool true) s' hr (startMp W) W ras (rel_start hl) (bd_start fun g tab hm => (hl g tab hm).1) (Nat.le_refl _) (fun x hx _ => by
      have hx' : 4096 ≤ x := hx
      unfold startMp; rw [if_neg (by omega)]) hvs
    have h1 : fn.name ≠ "runtime.NumGoroutine" := by simpa using hname
    have e : (callFunc f ras.toArray).run P W = .ok (.enter f ras.toArray) W := by simp [callFunc, hf, h1, hb]
    unfold CallR at hcall
    rw [e] at hcall
    refine Calls.mono (R := fun e w' => match e with | .returned u => Post ω W.heap.size W (startMp W) (start l) s' (.bool true) u w' | _ => False) hcall ?_
    intro e W' he
    cases e with
    | returned u =>
      obtain ⟨μ', _, hR, hu⟩ := he
      cases hu
      exact ⟨rfl, hR.below⟩
    | _ => exact he.elim
/-- What the rows' condition says of a listed variable. -/
theorem var_of_laid {P : Program} {W : World} {n : String} {g : Nat} {t : TypeId} {d : DataW Unit} (hg : P.globalNamed n = some g) (hty : (P.globals[g]?).map (·.type) = some t) {l : List (String × DataW Unit)} (hl : laidMet P l W) (hm : (n, d) ∈ l) :
    ∃ cs fuel p, W.var? P n = some cs ∧ DataW.trod (fun _ => ()) P W 0 (fun _ => true) false fuel t cs.toList = some (d, p) ∧ (0 < cs.size → ∃ u, W.heap[g]? = some (.cells cs u (0, 0))) := by
  have key : ∀ (l : List (String × DataW Unit)) (ps : List MemPlace), DataW.LaidVars P W l ps → (n, d) ∈ l → ∃ cs fuel p, W.var? P n = some cs ∧ DataW.trod (fun _ => ()) P W 0 (fun _ => true) false fuel t cs.toList = some (d, p) ∧ ∀ x ∈ MemPlace.row ⟨g, 0, none⟩ cs.size, x ∈ ps := by
    intro l
    induction l with
    | nil => intro ps _ hm; cases hm
    | cons a l ih =>
      intro ps hv hm
      obtain ⟨n', d'⟩ := a
      obtain ⟨g', t', cs, fuel, p, q, h1, h2, h3, h5, h6, rfl⟩ := hv
      rcases List.mem_cons.1 hm with e1 | e1
      · cases e1
        obtain rfl := Option.some.inj (hg.symm.trans h1)
        obtain rfl := Option.some.inj (hty.symm.trans h2)
        exact ⟨cs, fuel, p, h3, h5, fun x hx => List.mem_append_left _ (List.mem_append_left _ hx)⟩
      · obtain ⟨cs', f', p', k1, k2, k3⟩ := ih q h6 e1
        exact ⟨cs', f', p', k1, k2, fun x hx => List.mem_append_right _ (k3 x hx)⟩
  obtain ⟨ps, hv, _, hall⟩ := hl
  obtain ⟨cs, fuel, p, k1, k2, k3⟩ := key l ps hv hm
  refine ⟨cs, fuel, p, k1, k2, fun hsz => ?_⟩
  have hmem : MemPlace.cell g 0 ∈ ps := k3 _ (by
    unfold MemPlace.row
    exact List.mem_map.2 ⟨0, List.mem_range.2 hsz, rfl⟩)
  obtain ⟨⟨C, u, hC⟩, _⟩ := hall g 0 hmem
  refine ⟨u, ?_⟩
  simp only [World.var?, hg, Option.bind_some, hC] at k1
  cases k1
  exact hC
/-- .. of a listed table of numbers. -/
theorem globIs_of_laid {ω : Nat → Value} {P : Program} {W : World} {n : String} {g : Nat} {t e : TypeId} {m : Nat} {k : IntKind} {zs : List Int} (hg : P.globalNamed n = some g) (hty : (P.globals[g]?).map (·.type) = some t)
    (ht : P.underlying t = some (.array m e)) (he : P.underlying e = some (.int k)) (hce : P.cellsOf e = 1) (hct : P.cellsOf t = m) (h4 : g < 4096) (hz : 0 < zs.length)
    {l : List (String × DataW Unit)} (hl : laidMet P l W) (hm : (n, Lib.tabData k zs) ∈ l) : GlobIs ω W g (zs.map fun z => .int k z) := by
  obtain ⟨cs, fuel, p, k1, k2, k3⟩ := var_of_laid hg hty hl hm
  have hcs := Lib.cells_of_tab ht he hce hct k2
  have hsz : 0 < cs.size := by
    have := congrArg List.length hcs
    simp at this
    omega
  obtain ⟨u, hu⟩ := k3 hsz
  refine ⟨h4, cs, u, hu, fun μ => ?_⟩
  rw [hcs]
  refine VRs.refl_flat ?_
  rw [List.all_eq_true]
  intro v hv
  obtain ⟨z, _, rfl⟩ := List.mem_map.1 hv
  rfl
theorem iface_cell {H : Type} {enc : TypeId × Value → H} {P : Program} {w : World} {base : Nat} {sp : Nat → Bool} {held : Bool} {fuel : Nat} {t : TypeId} {ms : Array (String × TypeId)} {cs : List Value} {d : DataW H} {p : List MemPlace}
    (ht : P.underlying t = some (.interface ms)) (h : DataW.trod enc P w base sp held fuel t cs = some (d, p)) : ∃ v, cs = [v] ∧ v.oneCell' = true := by
  cases fuel with
  | zero => simp [DataW.trod] at h
  | succ n =>
    simp only [DataW.trod, ht] at h
    split at h
    all_goals first | exact ⟨_, rfl, rfl⟩ | (exfalso; simp_all; done)
/-- .. of a listed variable of an interface type: it holds some value. -/
theorem ifaceIs_of_laid {P : Program} {W : World} {n : String} {g : Nat} {t : TypeId} {ms : Array (String × TypeId)} {d : DataW Unit} (hg : P.globalNamed n = some g) (hty : (P.globals[g]?).map (·.type) = some t)
    (ht : P.underlying t = some (.interface ms)) (h4 : g < 4096) {l : List (String × DataW Unit)} (hl : laidMet P l W) (hm : (n, d) ∈ l) :
    ∃ v : Value, v.oneCell' = true ∧ ∀ (ω : Nat → Value) (k : Nat), ω k = v → GlobIs ω W g [.chan (some k)] := by
  obtain ⟨cs, fuel, p, k1, k2, k3⟩ := var_of_laid hg hty hl hm
  obtain ⟨v, hv, h1⟩ := iface_cell ht k2
  have hsz : 0 < cs.size := by
    have := congrArg List.length hv
    simp at this
    omega
  obtain ⟨u, hu⟩ := k3 hsz
  refine ⟨v, h1, fun ω k hk => ⟨h4, cs, u, hu, fun μ => ?_⟩⟩
  rw [hv, ← hk]
  exact VRs.cons (.unknown k) VRs.nil
end Go.Ev
