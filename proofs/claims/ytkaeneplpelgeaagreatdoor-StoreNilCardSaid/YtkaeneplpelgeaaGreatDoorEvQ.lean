/- PART EvQ of a proof by an evaluator of the model that is proved sound. -/
import Derived.Test.YtkaeneplpelgeaaGreatDoorEvB
set_option linter.unusedVariables false
set_option linter.unusedSimpArgs false
namespace Go.Ev
open Go Go.RowKit
section ops
variable {P : Program} {ω : Nat → Value} {B : Nat} {W0 : World} {μ : Mp} {w : World} {s s' : St} {call : FuncId → List Value → E Value} {ρ ρ' : Operand → Value}

theorem pureVal_inv {o : Option Value} {v : Value} (h : pureVal o s = some (v, s')) : o = some v ∧ flat v = true ∧ s' = s := by
  unfold pureVal at h
  cases o with
  | none => cases h
  | some u =>
    obtain ⟨hf, h2⟩ := guard_inv' h
    obtain ⟨rfl, rfl⟩ := pure_inv h2
    exact ⟨rfl, hf, rfl⟩
theorem pure_post {m : Sem Value} {v : Value} (hR : Rel ω B W0 μ s.heap w) (h : m.run P w = .ok v w) (hf : flat v = true) : Gives P m w (Post ω B W0 μ s s v) :=
  Gives.of_run h (Post.same hR (VR.refl_flat hf))
theorem armUn_ok {op : UnOp} {x : Operand} {v : Value} (h : armUn op x P call ρ s = some (v, s')) (hρ : ∀ x, VR ω μ (ρ x) (ρ' x)) (hR : Rel ω B W0 μ s.heap w) :
    Gives P (Op.unary op (ρ' x)) w (Post ω B W0 μ s s' v) := by
  unfold armUn at h
  have hx := hρ x
  obtain ⟨m, hm, hh⟩ := app h
  clear h
  split at hm <;> subst hm
  · rename_i k n hr
    obtain ⟨h1, h2, rfl⟩ := pureVal_inv hh
    rw [hr] at hx
    rw [VR.flat rfl hx]
    exact pure_post hR (evalPure_run h1 w) h2
  · rename_i b hr
    obtain ⟨h1, h2, rfl⟩ := pureVal_inv hh
    rw [hr] at hx
    rw [VR.flat rfl hx]
    exact pure_post hR (evalPure_run h1 w) h2
  · cases hh
theorem eqGuard_plain {op : BinOp} {t : TypeId} {x y : Operand} {a b : Value} (h : ¬ (a = .nilIface ∧ b = .nilIface)) (h2 : ∀ c d, ¬ (a = .agg c ∧ b = .agg d)) : (eqGuard op t x y a b).run P w = .ok () w := by
  unfold eqGuard
  cases op <;> first | rfl | skip
  all_goals
    cases a <;> cases b <;> first | rfl | exact absurd ⟨rfl, rfl⟩ h | exact absurd ⟨rfl, rfl⟩ (h2 _ _)
theorem bin_gives {op : BinOp} {t : TypeId} {x y : Operand} {a b v : Value} {R : Value → World → Prop} (h : ¬ (a = .nilIface ∧ b = .nilIface)) (h2 : ∀ c d, ¬ (a = .agg c ∧ b = .agg d))
    (hr : (binOp op t a b).run P w = .ok v w) (hR : R v w) : Gives P (do eqGuard op t x y a b; binOp op t a b) w R :=
  Gives.of_run (by rw [Sem.run_bind, eqGuard_plain h h2, Result.andThen_ok, hr]) hR
theorem equal_nil {t : TypeId} {d : TypeDesc} {a b a' b' : Value} {p q : Bool} (hu : P.underlying t = some d) (hp : isNil a = some p) (hq : isNil b = some q) (ha : nilKind d a = true) (hb : nilKind d b = true)
    (hx : (xor p q || (p && q && notNilI a)) = true) (hva : VR ω μ a a') (hvb : VR ω μ b b') :
    (Op.equal t a' b').run P w = .ok (p == q) w ∧ ¬ (a' = .nilIface ∧ b' = .nilIface) ∧ (∀ c d, ¬ (a' = .agg c ∧ b' = .agg d)) ∧ (∀ k n, a' ≠ .int k n) ∧ (∀ s, a' ≠ .string s) ∧ (∀ k n, a' ≠ .float k n) ∧ (∀ k n m, a' ≠ .complex k n m) := by
  have key : ∀ x y : Value, (Op.equal t x y).run P w = (match d, x, y with
    | .pointer _, .pointer none, .pointer b => .ok b.isNone w
    | .pointer _, .pointer _, .pointer none => .ok false w
    | .interface _, .nilIface, .iface _ _ | .interface _, .iface _ _, .nilIface => .ok false w
    | .slice _, .slice none _ _, .slice b _ _ => .ok b.isNone w
    | .slice _, .slice _ _ _, .slice none _ _ => .ok false w
    | .map _ _, .map none, .map b => .ok b.isNone w
    | .map _ _, .map _, .map none => .ok false w
    | .func _ _ _, .nilFunc, .nilFunc => .ok true w
    | .func _ _ _, .nilFunc, .func _ _ _ | .func _ _ _, .func _ _ _, .nilFunc => .ok false w
    | _, _, _ => (Op.equal t x y).run P w) := by
    intro x y
    have hu' := hu
    split <;> first
      | rfl
      | (unfold Op.equal Op.maxDepth
         rw [show (10000 : Nat) = 9999 + 1 from rfl, Op.equalIn]
         rw [Sem.run_bind, run_und w (by assumption), Result.andThen_ok]
         first
           | rfl
           | (cases ‹Option Addr› <;> first | rfl | (exfalso; simp_all; done))
           | (cases ‹Option Nat› <;> first | rfl | (exfalso; simp_all; done)))
  rw [key]
  cases d <;> cases a <;> simp [nilKind] at ha <;> cases b <;> simp [nilKind] at hb <;> simp only [isNil, Option.some.injEq] at hp hq <;> subst hp <;> subst hq <;> (try (simp at hx; done))
  all_goals
    cases hva <;> cases hvb <;> first
      | (simp [notNilI] at hx; done)
      | exact ⟨rfl, by simp, by simp, by simp, by simp, by simp, by simp⟩
end ops
end Go.Ev
