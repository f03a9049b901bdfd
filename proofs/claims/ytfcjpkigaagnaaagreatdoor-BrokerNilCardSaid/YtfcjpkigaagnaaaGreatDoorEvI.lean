/- PART EvI of a proof by an evaluator of the model that is proved sound. -/
import Derived.Test.YtfcjpkigaagnaaaGreatDoorEvH
set_option linter.unusedVariables false
set_option linter.unusedSimpArgs false
namespace Go.Ev
open Go Go.RowKit
def exOf : Ex → Exit
  | .normal => .normal
  | .exit i => .exit i
  | .goto l => .goto l
  | .ret => .ret
/-- The evaluator's run of a code stands for the model's. -/
def CodeOk (P : Program) (ω : Nat → Value) (B : Nat) (W0 : World) (code : CRun) : Prop :=
  ∀ n c r s e r' s', code n c r s = some ((e, r'), s') → ∀ (μ : Mp) (w : World) (a : Act), Rel ω B W0 μ s.heap w → Bd s → 4096 ≤ s.next → Fresh μ s.next s'.next → RegR ω μ n r a →
    ∀ Q : Exit → Act → World → Prop, (∀ μ' a' w', Ext μ μ' s.next s'.next → Rel ω B W0 μ' s'.heap w' → RegR ω μ' n r' a' → Q (exOf e) a' w') → c.wp P Q a w
/-- What stands in for functions stands for them. -/
def NatOk (P : Program) (ω : Nat → Value) (B : Nat) (W0 : World) (f : FuncId) (g : List Value → E Value) : Prop :=
  ∀ as s v s', g as s = some (v, s') → ∀ (μ : Mp) (w : World) (ras : List Value), Rel ω B W0 μ s.heap w → Bd s → 4096 ≤ s.next → Fresh μ s.next s'.next → VRs ω μ as ras → CallR P f ras.toArray w (Post ω B W0 μ s s' v)
section
variable {P : Program} {ω : Nat → Value} {B : Nat} {W0 : World} {nat : Nats}
theorem callR_enter {f : FuncId} {fn : Func} {c : Code} {args : Array Value} {w : World} {R : Value → World → Prop} (hf : P.funcs[f]? = some fn) (hname : (fn.name == "runtime.NumGoroutine") = false) (hb : fn.body = some c)
    (h : Calls P f args w fun e w' => match e with | .returned u => R u w' | _ => False) : CallR P f args w R := by
  have h1 : fn.name ≠ "runtime.NumGoroutine" := by simpa using hname
  have e : (callFunc f args).run P w = .ok (.enter f args) w := by simp [callFunc, hf, h1, hb]
  unfold CallR
  rw [e]
  exact h
theorem enter_ok {code : CRun} (hcode : CodeOk P ω B W0 code) (hnat : ∀ f g, nat f = some g → NatOk P ω B W0 f g)
    (hng : ∀ (f : FuncId) (fn : Func), P.funcs[f]? = some fn → (fn.body.isNone || !(fn.name == "runtime.NumGoroutine")) = true) : CallsOk P ω B W0 (enter P nat code) := by
  intro f as s v s' h μ w ras hR hbd h4 hfr hvs
  unfold enter at h
  cases hn : nat f with
  | some g => rw [hn] at h; exact hnat f g hn as s v s' h μ w ras hR hbd h4 hfr hvs
  | none =>
    rw [hn] at h
    dsimp only at h
    cases hf : P.funcs[f]? with
    | none => rw [hf] at h; cases h
    | some fn =>
      rw [hf] at h
      dsimp only at h
      cases hb : fn.body with
      | none => rw [hb] at h; cases h
      | some c =>
        rw [hb] at h
        dsimp only at h
        have hname : (fn.name == "runtime.NumGoroutine") = false := by
          have := hng f fn hf
          rw [hb] at this
          simpa using this
        obtain ⟨⟨e, r'⟩, s1, h1, h2⟩ := bind_inv h
        have hres : (e = .normal ∨ e = .ret) ∧ ∃ vs, resultsOf P r' fn.results.toList s1 = some (vs, s') ∧ v = theResult vs := by
          cases e with
          | normal =>
            obtain ⟨vs, s2, h3, h4⟩ := bind_inv h2
            obtain ⟨rfl, rfl⟩ := pure_inv h4
            exact ⟨.inl rfl, vs, h3, rfl⟩
          | ret =>
            obtain ⟨vs, s2, h3, h4⟩ := bind_inv h2
            obtain ⟨rfl, rfl⟩ := pure_inv h4
            exact ⟨.inr rfl, vs, h3, rfl⟩
          | exit i => cases h2
          | goto l => cases h2
        obtain ⟨he, vs, h3, rfl⟩ := hres
        have st2 := (Fr.resultsOf (P := P) r' fn.results.toList).step _ _ _ h3
        refine callR_enter hf hname hb (calls_of_wp hf hb ?_)
        refine hcode _ _ _ _ _ _ _ h1 μ w _ hR hbd h4 (hfr.before st2.next) (load_ok (by simpa using hvs)) _ fun μ' a' w' hext hR' hreg => ?_
        obtain ⟨rfl, u, hu, hvu⟩ := results_ok hreg h3 hR'
        have : a'.defers = [] ∧ ∃ v, (results fn a'.tmps).run P w' = .ok v w' ∧ Post ω B W0 μ s s' (theResult vs) v w' := ⟨hreg.defers, u, hu, μ', hext, hR', hvu⟩
        rcases he with rfl | rfl <;> exact this
theorem cRegion_ok {k : Nat} {ih : CRun} {n : Nat} {ops : Array Oper} {id : Nat} {d : Bool} {r r' : Regs} {s s' : St} {e : Ex} (hm : P.follows .mixedOrders = true) (hω : ∀ k, (ω k).oneCell' = true) (hc : CallsOk P ω B W0 (enter P nat ih)) (hcf : ∀ f as, Fr (enter P nat ih f as))
    (h : cRegion ops d P nat k ih n r s = some ((e, r'), s')) {μ : Mp} {w : World} {a : Act} (hR : Rel ω B W0 μ s.heap w) (hbd : Bd s) (h4 : 4096 ≤ s.next) (hf : Fresh μ s.next s'.next) (hr : RegR ω μ n r a)
    {Q : Exit → Act → World → Prop} (hQ : ∀ μ' a' w', Ext μ μ' s.next s'.next → Rel ω B W0 μ' s'.heap w' → RegR ω μ' n r' a' → Q (exOf e) a' w') : (Code.region id ops d).wp P Q a w := by
  unfold cRegion at h
  cases d with
  | true =>
    dsimp only at h
    obtain ⟨hp, h1⟩ := guard_inv' h
    obtain ⟨r1, s1, h2, h3⟩ := bind_inv h1
    obtain ⟨h5, rfl⟩ := pure_inv h3
    cases h5
    exact region_draw_ok hm hω hc hcf hp h2 hR hbd h4 hf hr hQ
  | false =>
    dsimp only at h
    obtain ⟨r1, s1, h2, h3⟩ := bind_inv h
    obtain ⟨h5, rfl⟩ := pure_inv h3
    cases h5
    refine wp_region ?_
    rw [List.range_eq_range']
    exact evalOps_ok hω hc hcf ops.size 0 (by omega) r _ s _ μ w a (by simpa using h2) hR hbd h4 hf hr hQ
theorem armOfCode_ok {k : Nat} {ih : CRun} (hm : P.follows .mixedOrders = true) (hω : ∀ k, (ω k).oneCell' = true) (hcode : CodeOk P ω B W0 ih) (hcf : ∀ n c r, Fr (ih n c r)) (hnf : ∀ f g, nat f = some g → ∀ as, Fr (g as)) (hnat : ∀ f g, nat f = some g → NatOk P ω B W0 f g)
    (hng : ∀ (f : FuncId) (fn : Func), P.funcs[f]? = some fn → (fn.body.isNone || !(fn.name == "runtime.NumGoroutine")) = true) : CodeOk P ω B W0 (fun n c r => armOfCode c P nat k ih n r) := by
  intro n c r s e r' s' h μ w a hR hbd h4 hfr hr Q hQ
  cases c with
  | skip =>
    have h : some ((Ex.normal, r), s) = some ((e, r'), s') := h
    cases h
    exact wp_skip (hQ μ a w (Ext.refl _ _ _) hR hr)
  | label l =>
    have h : some ((Ex.normal, r), s) = some ((e, r'), s') := h
    cases h
    exact wp_label (hQ μ a w (Ext.refl _ _ _) hR hr)
  | exit i =>
    have h : some ((Ex.exit i, r), s) = some ((e, r'), s') := h
    cases h
    exact wp_exit (hQ μ a w (Ext.refl _ _ _) hR hr)
  | goto l =>
    have h : some ((Ex.goto l, r), s) = some ((e, r'), s') := h
    cases h
    exact wp_goto (hQ μ a w (Ext.refl _ _ _) hR hr)
  | ret =>
    have h : some ((Ex.ret, r), s) = some ((e, r'), s') := h
    cases h
    exact wp_ret (hQ μ a w (Ext.refl _ _ _) hR hr)
  | rangeFunc f ps x y => cases h
  | refuse why => cases h
  | region id ops d => exact cRegion_ok (k := k) hm hω (enter_ok hcode hnat hng) (Fr.enter hcf hnf) h hR hbd h4 hfr hr hQ
  | cond x c1 c2 =>
    have h : (match ev r x with
      | .bool t => Bool.rec (motive := fun _ => Option ((Ex × Regs) × St)) (ih n c2 r s) (ih n c1 r s) t
      | _ => none) = some ((e, r'), s') := h
    have hx := ev_ok hr hR.glob x
    revert h hx
    generalize ev r x = vx
    intro h hx
    cases vx with
    | bool t =>
      generalize hu : a.eval x = u at hx
      cases hx
      refine wp_cond hu ?_
      cases t with
      | true => exact hcode _ _ _ _ _ _ _ h μ w a hR hbd h4 hfr hr Q hQ
      | false => exact hcode _ _ _ _ _ _ _ h μ w a hR hbd h4 hfr hr Q hQ
    | _ => cases h
  | seq c1 c2 =>
    have h : (match ih n c1 r s with
      | none => none
      | some ((e, r), s) => match e with
        | .normal => ih n c2 r s
        | e => some ((e, r), s)) = some ((e, r'), s') := h
    cases h1 : ih n c1 r s with
    | none => rw [h1] at h; cases h
    | some p =>
      obtain ⟨⟨e1, r1⟩, s1⟩ := p
      rw [h1] at h
      dsimp only at h
      have st1 := (hcf n c1 r).step _ _ _ h1
      cases e1 with
      | normal =>
        dsimp only at h
        have st2 := (hcf n c2 r1).step _ _ _ h
        refine wp_seq (hcode _ _ _ _ _ _ _ h1 μ w a hR hbd h4 (hfr.before st2.next) hr _ fun μ1 a1 w1 he1 hR1 hr1 => ?_)
        show c2.wp P Q a1 w1
        exact hcode _ _ _ _ _ _ _ h μ1 w1 a1 hR1 (hbd.after st1) (by have := st1.next; omega) (hfr.after he1 st1.next) hr1 Q fun μ2 a2 w2 he2 hR2 hr2 => hQ μ2 a2 w2 (he1.trans he2 st1.next st2.next) hR2 hr2
      | _ =>
        cases h
        exact wp_seq (hcode _ _ _ _ _ _ _ h1 μ w a hR hbd h4 hfr hr _ fun μ1 a1 w1 he1 hR1 hr1 => hQ μ1 a1 w1 he1 hR1 hr1)
  | block id c1 =>
    have h : (match ih n c1 r s with
      | none => none
      | some ((e, r), s) => match e with
        | .exit i => some ((bif Nat.beq i id then .normal else .exit i, r), s)
        | e => some ((e, r), s)) = some ((e, r'), s') := h
    cases h1 : ih n c1 r s with
    | none => rw [h1] at h; cases h
    | some p =>
      obtain ⟨⟨e1, r1⟩, s1⟩ := p
      rw [h1] at h
      dsimp only at h
      cases e1 with
      | exit i =>
        dsimp only at h
        have h' : (bif Nat.beq i id then Ex.normal else .exit i) = e ∧ r1 = r' ∧ s1 = s' := by
          have := Option.some.inj h
          exact ⟨congrArg (fun p => p.1.1) this, congrArg (fun p => p.1.2) this, congrArg (fun p => p.2) this⟩
        obtain ⟨he, rfl, rfl⟩ := h'
        refine wp_block (hcode _ _ _ _ _ _ _ h1 μ w a hR hbd h4 hfr hr _ fun μ1 a1 w1 he1 hR1 hr1 => ?_)
        have hq := hQ μ1 a1 w1 he1 hR1 hr1
        show if i = id then Q .normal a1 w1 else Q (.exit i) a1 w1
        by_cases c : i = id
        · rw [if_pos c]
          have : Nat.beq i id = true := by rw [c]; exact Nat.beq_refl id
          rw [this] at he
          rw [← he] at hq
          exact hq
        · rw [if_neg c]
          have : Nat.beq i id = false := by
            cases hb : Nat.beq i id with
            | false => rfl
            | true => exact absurd (Nat.eq_of_beq_eq_true hb) c
          rw [this] at he
          rw [← he] at hq
          exact hq
      | _ =>
        cases h
        exact wp_block (hcode _ _ _ _ _ _ _ h1 μ w a hR hbd h4 hfr hr _ fun μ1 a1 w1 he1 hR1 hr1 => hQ μ1 a1 w1 he1 hR1 hr1)
  | loop c1 =>
    have h : loopIter (ih n c1) k r s = some ((e, r'), s') := h
    refine wp_loop_fam (J := fun j a1 w1 => ∃ r1 s1 μ1, loopIter (ih n c1) j r1 s1 = some ((e, r'), s') ∧ Rel ω B W0 μ1 s1.heap w1 ∧ Bd s1 ∧ 4096 ≤ s1.next ∧ Fresh μ1 s1.next s'.next ∧ RegR ω μ1 n r1 a1 ∧ Ext μ μ1 s.next s1.next ∧ s.next ≤ s1.next) ?_ (j := k)
      ⟨r, s, μ, h, hR, hbd, h4, hfr, hr, Ext.refl _ _ _, Nat.le_refl _⟩
    rintro j a1 w1 ⟨r1, s1, μ1, hl, hR1, hbd1, h41, hfr1, hr1, hx1, hle1⟩
    cases j with
    | zero => cases hl
    | succ j =>
      rw [loopIter_succ] at hl
      cases h1 : ih n c1 r1 s1 with
      | none => rw [h1] at hl; cases hl
      | some p =>
        obtain ⟨⟨e1, r2⟩, s2⟩ := p
        rw [h1] at hl
        dsimp only at hl
        have st1 := (hcf n c1 r1).step _ _ _ h1
        cases e1 with
        | normal =>
          dsimp only at hl
          have st2 := (Fr.loopIter (hcf n c1) j r2).step _ _ _ hl
          refine hcode _ _ _ _ _ _ _ h1 μ1 w1 a1 hR1 hbd1 h41 (hfr1.before st2.next) hr1 _ fun μ2 a2 w2 he2 hR2 hr2 => ?_
          exact ⟨j, Nat.lt_succ_self j, r2, s2, μ2, hl, hR2, hbd1.after st1, by have := st1.next; omega, hfr1.after he2 st1.next, hr2, hx1.trans he2 hle1 st1.next, by have := st1.next; omega⟩
        | _ =>
          cases hl
          exact hcode _ _ _ _ _ _ _ h1 μ1 w1 a1 hR1 hbd1 h41 hfr1 hr1 _ fun μ2 a2 w2 he2 hR2 hr2 => hQ μ2 a2 w2 (hx1.trans he2 hle1 st1.next) hR2 hr2
  | scope c1 =>
    have h : scopeIter (ih n) c1 k c1 r s = some ((e, r'), s') := h
    refine wp_scope_fam (J := fun j cur a1 w1 => ∃ r1 s1 μ1, scopeIter (ih n) c1 j cur r1 s1 = some ((e, r'), s') ∧ Rel ω B W0 μ1 s1.heap w1 ∧ Bd s1 ∧ 4096 ≤ s1.next ∧ Fresh μ1 s1.next s'.next ∧ RegR ω μ1 n r1 a1 ∧ Ext μ μ1 s.next s1.next ∧ s.next ≤ s1.next) ?_ (j := k)
      ⟨r, s, μ, h, hR, hbd, h4, hfr, hr, Ext.refl _ _ _, Nat.le_refl _⟩
    rintro j cur a1 w1 ⟨r1, s1, μ1, hl, hR1, hbd1, h41, hfr1, hr1, hx1, hle1⟩
    cases j with
    | zero => cases hl
    | succ j =>
      rw [scopeIter_succ] at hl
      cases h1 : ih n cur r1 s1 with
      | none => rw [h1] at hl; cases hl
      | some p =>
        obtain ⟨⟨e1, r2⟩, s2⟩ := p
        rw [h1] at hl
        dsimp only at hl
        have st1 := (hcf n cur r1).step _ _ _ h1
        cases e1 with
        | goto l =>
          dsimp only at hl
          cases hfl : findLabel c1 l with
          | none =>
            rw [hfl] at hl
            cases hl
            refine hcode _ _ _ _ _ _ _ h1 μ1 w1 a1 hR1 hbd1 h41 hfr1 hr1 _ fun μ2 a2 w2 he2 hR2 hr2 => ?_
            show Exit.fam c1 _ Q (.goto l) a2 w2
            simp only [Exit.fam, hfl]
            exact hQ μ2 a2 w2 (hx1.trans he2 hle1 st1.next) hR2 hr2
          | some rest =>
            rw [hfl] at hl
            have st2 := (Fr.scopeIter (hcf n) c1 j rest r2).step _ _ _ hl
            refine hcode _ _ _ _ _ _ _ h1 μ1 w1 a1 hR1 hbd1 h41 (hfr1.before st2.next) hr1 _ fun μ2 a2 w2 he2 hR2 hr2 => ?_
            show Exit.fam c1 _ Q (.goto l) a2 w2
            simp only [Exit.fam, hfl]
            exact ⟨j, Nat.lt_succ_self j, r2, s2, μ2, hl, hR2, hbd1.after st1, by have := st1.next; omega, hfr1.after he2 st1.next, hr2, hx1.trans he2 hle1 st1.next, by have := st1.next; omega⟩
        | _ =>
          cases hl
          exact hcode _ _ _ _ _ _ _ h1 μ1 w1 a1 hR1 hbd1 h41 hfr1 hr1 _ fun μ2 a2 w2 he2 hR2 hr2 => hQ μ2 a2 w2 (hx1.trans he2 hle1 st1.next) hR2 hr2
theorem evalCode_ok (hm : P.follows .mixedOrders = true) (hω : ∀ k, (ω k).oneCell' = true) (hnf : ∀ f g, nat f = some g → ∀ as, Fr (g as)) (hnat : ∀ f g, nat f = some g → NatOk P ω B W0 f g)
    (hng : ∀ (f : FuncId) (fn : Func), P.funcs[f]? = some fn → (fn.body.isNone || !(fn.name == "runtime.NumGoroutine")) = true) : ∀ k, CodeOk P ω B W0 (evalCode P nat k)
  | 0 => fun n c r s e r' s' h => by cases h
  | k + 1 => armOfCode_ok hm hω (evalCode_ok hm hω hnf hnat hng k) (Fr.evalCode hnf k) hnf hnat hng
/-- THE EVALUATOR IS SOUND: what it gives at a call, the model gives. -/
theorem evalCall_ok (hm : P.follows .mixedOrders = true) (hω : ∀ k, (ω k).oneCell' = true) (hnf : ∀ f g, nat f = some g → ∀ as, Fr (g as)) (hnat : ∀ f g, nat f = some g → NatOk P ω B W0 f g)
    (hng : ∀ (f : FuncId) (fn : Func), P.funcs[f]? = some fn → (fn.body.isNone || !(fn.name == "runtime.NumGoroutine")) = true) (k : Nat) : CallsOk P ω B W0 (evalCall P nat k) :=
  enter_ok (evalCode_ok hm hω hnf hnat hng k) hnat hng
end
end Go.Ev
