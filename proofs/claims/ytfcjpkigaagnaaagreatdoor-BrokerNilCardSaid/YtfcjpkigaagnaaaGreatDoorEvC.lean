/- PART EvC of a proof by an evaluator of the model that is proved sound. -/
import Derived.Test.YtfcjpkigaagnaaaGreatDoorEvS
import Derived.Scope
set_option linter.unusedVariables false
set_option linter.unusedSimpArgs false
namespace Go.Ev
open Go Go.RowKit
section rules
variable {P : Program} {Q : Exit → Act → World → Prop}
/-- A loop, by a family: every round that goes on has a smaller number. -/
theorem wp_loop_fam {c : Code} (J : Nat → Act → World → Prop) (round : ∀ j a w, J j a w → c.wp P (Exit.then (fun a' w' => ∃ i, i < j ∧ J i a' w') Q) a w) {j : Nat} {a : Act} {w : World} (h : J j a w) : (Code.loop c).wp P Q a w := by
  intro b k cs
  have key : ∀ j a w, J j a w → ∃ e a' w', Q e a' w' ∧ Arrives P (lone (b.at a (.code c :: .inLoop c :: k)) cs w) b k cs e a' w' := by
    intro j
    induction j using Nat.strongRecOn with
    | _ j ih =>
      intro a w hJ
      obtain ⟨e, a₁, w₁, hq, harr⟩ := round j a w hJ b (.inLoop c :: k) cs
      cases e with
      | normal =>
        obtain ⟨i, hi, hJ'⟩ := hq
        obtain ⟨e₂, a₂, w₂, hq₂, harr₂⟩ := ih i hi a₁ w₁ hJ'
        exact ⟨e₂, a₂, w₂, hq₂, .of_steps (Steps.trans harr (.one step_inLoop)) harr₂⟩
      | exit id => exact ⟨_, a₁, w₁, hq, .pass (x := .inLoop c) rfl (fun _ _ => .inl (by simp)) harr⟩
      | goto l => exact ⟨_, a₁, w₁, hq, .pass (x := .inLoop c) rfl (fun _ _ => .inl (by simp)) harr⟩
      | ret => exact ⟨_, a₁, w₁, hq, .pass (x := .inLoop c) rfl (fun _ _ => .inl (by simp)) harr⟩
      | panic ch => exact ⟨_, a₁, w₁, hq, .pass (x := .inLoop c) rfl (fun _ _ => .inl (by simp)) harr⟩
      | outgrown => exact ⟨_, a₁, w₁, hq, .pass (x := .inLoop c) rfl (fun _ _ => .inl (by simp)) harr⟩
  obtain ⟨e, a', w', hq, harr⟩ := key j a w h
  exact ⟨e, a', w', hq, .of_steps (.one step_loop) harr⟩
/-- Behind a jump to a label of the scope's: K; else as Q says. -/
def Exit.fam (c : Code) (K : Code → Act → World → Prop) (Q : Exit → Act → World → Prop) : Exit → Act → World → Prop
  | .goto l, a, w => match findLabel c l with
    | some rest => K rest a w
    | none => Q (.goto l) a w
  | e, a, w => Q e a w
/-- A scope, by a family: every jump has a smaller number. -/
theorem wp_scope_fam {c : Code} (J : Nat → Code → Act → World → Prop) (pass : ∀ j cur a w, J j cur a w → cur.wp P (Exit.fam c (fun rest a' w' => ∃ i, i < j ∧ J i rest a' w') Q) a w) {j : Nat} {a : Act} {w : World} (h : J j c a w) :
    (Code.scope c).wp P Q a w := by
  intro b k cs
  have key : ∀ j cur a w, J j cur a w → ∃ e a' w', Q e a' w' ∧ Arrives P (lone (b.at a (.code cur :: .inScope c :: k)) cs w) b k cs e a' w' := by
    intro j
    induction j using Nat.strongRecOn with
    | _ j ih =>
      intro cur a w hJ
      obtain ⟨e, a₁, w₁, hq, harr⟩ := pass j cur a w hJ b (.inScope c :: k) cs
      cases e with
      | normal => exact ⟨.normal, a₁, w₁, hq, Steps.trans harr (.one step_inScope)⟩
      | exit id => exact ⟨.exit id, a₁, w₁, hq, fun k' hk => harr k' (by simp [exitTo, hk])⟩
      | goto l =>
        cases hf : findLabel c l with
        | none =>
          simp only [Exit.fam, hf] at hq
          exact ⟨.goto l, a₁, w₁, hq, fun k' hk => harr k' (by simp [gotoIn, hf, hk])⟩
        | some rest =>
          simp only [Exit.fam, hf] at hq
          obtain ⟨i, hi, hJ'⟩ := hq
          obtain ⟨e₂, a₂, w₂, hq₂, harr₂⟩ := ih i hi rest a₁ w₁ hJ'
          exact ⟨e₂, a₂, w₂, hq₂, .of_steps (harr _ (by simp [gotoIn, hf])) harr₂⟩
      | ret => exact ⟨_, a₁, w₁, hq, harr⟩
      | panic ch => exact ⟨_, a₁, w₁, hq, harr⟩
      | outgrown => exact ⟨_, a₁, w₁, hq, harr⟩
  obtain ⟨e, a', w', hq, harr⟩ := key j c a w h
  exact ⟨e, a', w', hq, .of_steps (.one step_scope) harr⟩
end rules

/-- The registers. -/
structure RegR (ω : Nat → Value) (μ : Mp) (n : Nat) (r : Regs) (a : Act) : Prop where
  size : a.tmps.size = n
  defers : a.defers = []
  vals : ∀ t, VR ω μ (getR r t) (a.tmps.getD t undef)
section
variable {P : Program} {ω : Nat → Value} {B : Nat} {W0 : World} {μ μ' : Mp} {w : World} {s s' : St} {call : FuncId → List Value → E Value} {n : Nat} {r r' : Regs} {a : Act}
theorem RegR.ext (h : RegR ω μ n r a) (he : ∀ x l, μ x = some l → μ' x = some l) : RegR ω μ' n r a := ⟨h.size, h.defers, fun t => (h.vals t).ext he⟩
theorem ev_ok (h : RegR ω μ n r a) (hg : ∀ g, g < 4096 → ∃ l, μ g = some l ∧ l.blk = g ∧ l.off = 0) (x : Operand) : VR ω μ (ev r x) (a.eval x) := by
  cases x with
  | tmp t => exact h.vals t
  | const v =>
    show VR ω μ (bif flatC v then v else .chan none) v
    cases hf : flatC v with
    | true => exact VR.refl_flatC hf
    | false => exact .junk v
  | global g =>
    show VR ω μ (bif Nat.ble g 4095 then ptr g 0 else .chan none) (.pointer (some ⟨g, 0, none⟩))
    cases hb : Nat.ble g 4095 with
    | true =>
      obtain ⟨l, h1, h2, h3⟩ := hg g (by have := Nat.le_of_ble_eq_true hb; omega)
      have := VR.ptr (ω := ω) g 0 l h1
      rw [h2, h3] at this
      exact this
    | false => exact .junk _
  | func f => exact .func _ _ _ _ _ rfl rfl (fun i v v' e => by simp at e) (fun i v v' e => by simp at e)
theorem getR_set (r : Regs) (t d : Nat) (v : Value) : getR (r.set d v) t = if t = d then v else getR r t := by
  unfold getR
  rw [T.get_set]
  split <;> rfl
theorem RegR.put (h : RegR ω μ n r a) {d : Option Tmp} {v u : Value} (hp : putR n r d v = some r') (hv : VR ω μ v u) : RegR ω μ n r' (a.put d u) := by
  unfold putR at hp
  cases d with
  | none => cases hp; exact h
  | some t =>
    dsimp only at hp
    cases hb : Nat.ble (Nat.succ t) n with
    | false => rw [hb] at hp; cases hp
    | true =>
      rw [hb] at hp; cases hp
      have hlt : t < n := Nat.le_of_ble_eq_true hb
      refine ⟨by simp [Act.put, h.size], h.defers, fun i => ?_⟩
      rw [getR_set]
      simp only [Act.put, Array.getD_eq_getD_getElem?, Array.getElem?_setIfInBounds]
      by_cases hi : t = i
      · subst hi
        rw [if_pos rfl, if_pos rfl, if_pos (by rw [h.size]; exact hlt)]
        exact hv
      · rw [if_neg (fun e => hi e.symm), if_neg hi]
        have := h.vals i
        rwa [Array.getD_eq_getD_getElem?] at this
theorem wanted_ok' {ops : Array Oper} {o : Oper} {b : Bool} (h : ∀ j want d, o.guard = some (j, want) → (ops[j]?).bind (·.dst) = some d → VR ω μ (getR r d) (a.tmps.getD d undef)) (hw : wanted ops.toList o r = some b) : Region.wanted o (yielded ops a.tmps) = b := by
  unfold wanted at hw
  unfold Region.wanted
  cases hgd : o.guard with
  | none => rw [hgd] at hw; cases hw; rfl
  | some p =>
    obtain ⟨j, want⟩ := p
    rw [hgd] at hw
    dsimp only at hw ⊢
    unfold yielded
    have hl : ops.toList[j]? = ops[j]? := Array.getElem?_toList
    rw [hl] at hw
    cases hd : (ops[j]?).bind (·.dst) with
    | none => rw [hd] at hw; cases hw; rfl
    | some d =>
      rw [hd] at hw
      dsimp only [Option.bind_some] at hw ⊢
      have hv := h j want d hgd hd
      rw [Array.getD_eq_getD_getElem?] at hv
      cases hr : getR r d <;> rw [hr] at hw hv <;> dsimp only at hw
      case bool t =>
        cases hw
        cases ht : a.tmps[d]? with
        | none => rw [ht] at hv; cases hv
        | some u =>
          rw [ht] at hv
          simp only [Option.getD_some] at hv
          cases hv
          rfl
      case chan c =>
        cases c <;> cases hw
      all_goals
        cases hw
        cases ht : a.tmps[d]? with
        | none => rfl
        | some u =>
          rw [ht] at hv
          simp only [Option.getD_some] at hv
          cases hv <;> rfl
theorem wanted_ok {ops : Array Oper} {o : Oper} {b : Bool} (h : RegR ω μ n r a) (hw : wanted ops.toList o r = some b) : Region.wanted o (yielded ops a.tmps) = b :=
  wanted_ok' (fun _ _ d _ _ => h.vals d) hw
theorem wp_of_does {o : Oper} {R : Value → World → Prop} {next : Act → World → Prop} {Q : Exit → Act → World → Prop} (hd : Does P o a.eval w R) (hn : ∀ u w', R u w' → next (a.put o.dst u) w') : o.wp P a w next Q := by
  unfold Does at hd
  unfold Oper.wp
  revert hd
  generalize (execOp a.eval o).run P w = res
  intro hd
  cases res with
  | halt _ _ => exact hd.elim
  | ok x w' =>
    cases x <;> first | exact hd.elim | skip
    · exact hn _ _ hd
    · exact hn _ _ hd
    · refine Calls.mono hd fun e w'' he => ?_
      cases e with
      | returned u => exact hn _ _ he
      | panicked c => exact he.elim
      | outgrown => exact he.elim
theorem evalOps_ok {ops : Array Oper} {Q : Exit → Act → World → Prop} (hω : ∀ k, (ω k).oneCell' = true) (hc : CallsOk P ω B W0 call) (hcf : ∀ f as, Fr (call f as)) : ∀ (m k : Nat), k + m = ops.size → ∀ (r r' : Regs) (s s' : St) (μ : Mp) (w : World) (a : Act),
    evalOps P call n ops.toList (ops.toList.drop k) r s = some (r', s') → Rel ω B W0 μ s.heap w → Bd s → 4096 ≤ s.next → Fresh μ s.next s'.next → RegR ω μ n r a →
    (∀ μ' a' w', Ext μ μ' s.next s'.next → Rel ω B W0 μ' s'.heap w' → RegR ω μ' n r' a' → Q .normal a' w') → wpOps P ops Q (List.range' k m) a w := by
  intro m
  induction m with
  | zero =>
    intro k hk r r' s s' μ w a h hR hbd h4 hf hr hQ
    have : ops.toList.drop k = [] := List.drop_eq_nil_of_le (by simp; omega)
    rw [this] at h
    have h' : some (r, s) = some (r', s') := h
    cases h'
    exact hQ μ a w (Ext.refl _ _ _) hR hr
  | succ m ih =>
    intro k hk r r' s s' μ w a h hR hbd h4 hf hr hQ
    have hlt : k < ops.toList.length := by simp; omega
    have hd : ops.toList.drop k = ops.toList[k] :: ops.toList.drop (k + 1) := List.drop_eq_getElem_cons hlt
    have hok : ops[k]? = some (ops.toList[k]) := by rw [← Array.getElem?_toList, List.getElem?_eq_getElem hlt]
    rw [hd, evalOps_cons] at h
    rw [List.range'_succ]
    simp only [wpOps, hok]
    cases hw : wanted ops.toList ops.toList[k] r with
    | none => rw [hw] at h; cases h
    | some b =>
      rw [hw] at h
      rw [wanted_ok hr hw]
      cases b with
      | false =>
        simp only [Bool.false_eq_true, if_false]
        dsimp only at h
        cases hp : putR n r (ops.toList[k]).dst undef with
        | none => rw [hp] at h; cases h
        | some r1 =>
          rw [hp] at h
          exact ih (k + 1) (by omega) r1 r' s s' μ w _ h hR hbd h4 hf (hr.put hp VR.undef) hQ
      | true =>
        simp only [if_true]
        dsimp only at h
        cases ha : armOf (ops.toList[k]).op P call (ev r) s with
        | none => rw [ha] at h; cases h
        | some p =>
          obtain ⟨v, s1⟩ := p
          rw [ha] at h
          dsimp only at h
          cases hp : putR n r (ops.toList[k]).dst v with
          | none => rw [hp] at h; cases h
          | some r1 =>
            rw [hp] at h
            have hst1 := (Fr.armOf (ops.toList[k]).op hcf).step s v s1 ha
            have hs1 := hst1.next
            have hs2 := ((Fr.evalOps n ops.toList hcf (ops.toList.drop (k + 1)) r1).step s1 r' s' h).next
            have hdoes := armOf_ok hω hc hbd ha (ev_ok hr hR.glob) hR h4 (hf.before hs2)
            left
            refine wp_of_does hdoes fun u w' hpost => ?_
            obtain ⟨μ1, he1, hR1, hv1⟩ := hpost
            refine ih (k + 1) (by omega) r1 r' s1 s' μ1 w' _ h hR1 (hbd.after hst1) (by omega) (hf.after he1 hs1) ((hr.ext he1.1).put hp hv1) ?_
            intro μ2 a2 w2 he2 hR2 hr2
            exact hQ μ2 a2 w2 (he1.trans he2 hs1 hs2) hR2 hr2
end
end Go.Ev
