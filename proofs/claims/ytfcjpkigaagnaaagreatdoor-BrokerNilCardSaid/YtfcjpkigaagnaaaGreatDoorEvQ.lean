/- PART EvQ of a proof by an evaluator of the model that is proved sound. -/
import Derived.Test.YtfcjpkigaagnaaaGreatDoorEvB
set_option linter.unusedSimpArgs false
set_option linter.unusedVariables false



namespace Go.Ev
open Go Go.RowKit
section ops
variable {P : Program} {ω : Nat → Value} {B : Nat} {W0 : World} {μ : Mp} {w : World} {s s' : St} {call : FuncId → List Value → E Value} {ρ ρ' : Operand → Value}

theorem pureVal_inv {o : Option Value} {v : Value} (h : pureVal o s = some (v, s')) : o = some v ∧ flat v = true ∧ s' = s := by
  unfold pureVal at h
  cases o with
  | none => cases h
  | some u =>
    obtain ⟨hf, h2⟩ := guard_inv' h
    obtain ⟨rfl, rfl⟩ := pure_inv h2
    exact ⟨rfl, hf, rfl⟩
theorem pure_post {m : Sem Value} {v : Value} (hR : Rel ω B W0 μ s.heap w) (h : m.run P w = .ok v w) (hf : flat v = true) : Gives P m w (Post ω B W0 μ s s v) :=
  Gives.of_run h (Post.same hR (VR.refl_flat hf))
theorem armUn_ok {op : UnOp} {x : Operand} {v : Value} (h : armUn op x P call ρ s = some (v, s')) (hρ : ∀ x, VR ω μ (ρ x) (ρ' x)) (hR : Rel ω B W0 μ s.heap w) :
    Gives P (Op.unary op (ρ' x)) w (Post ω B W0 μ s s' v) := by
  unfold armUn at h
  have hx := hρ x
  obtain ⟨m, hm, hh⟩ := app h
  clear h
  split at hm <;> subst hm
  · rename_i k n hr
    obtain ⟨h1, h2, rfl⟩ := pureVal_inv hh
    rw [hr] at hx
    rw [VR.flat rfl hx]
    exact pure_post hR (evalPure_run h1 w) h2
  · rename_i b hr
    obtain ⟨h1, h2, rfl⟩ := pureVal_inv hh
    rw [hr] at hx
    rw [VR.flat rfl hx]
    exact pure_post hR (evalPure_run h1 w) h2
  · cases hh
theorem eqGuard_plain {op : BinOp} {t : TypeId} {x y : Operand} {a b : Value} (h : ¬ (a = .nilIface ∧ b = .nilIface)) (h2 : ∀ c d, ¬ (a = .agg c ∧ b = .agg d)) : (eqGuard op t x y a b).run P w = .ok () w := by
  unfold eqGuard
  cases op <;> first | rfl | skip
  all_goals
    cases a <;> cases b <;> first | rfl | exact absurd ⟨rfl, rfl⟩ h | exact absurd ⟨rfl, rfl⟩ (h2 _ _)
theorem bin_gives {op : BinOp} {t : TypeId} {x y : Operand} {a b v : Value} {R : Value → World → Prop} (h : ¬ (a = .nilIface ∧ b = .nilIface)) (h2 : ∀ c d, ¬ (a = .agg c ∧ b = .agg d))
    (hr : (binOp op t a b).run P w = .ok v w) (hR : R v w) : Gives P (do eqGuard op t x y a b; binOp op t a b) w R :=
  Gives.of_run (by rw [Sem.run_bind, eqGuard_plain h h2, Result.andThen_ok, hr]) hR
theorem equal_nil {t : TypeId} {d : TypeDesc} {a b a' b' : Value} {p q : Bool} (hu : P.underlying t = some d) (hp : isNil a = some p) (hq : isNil b = some q) (ha : nilKind d a = true) (hb : nilKind d b = true)
    (hx : (xor p q || (p && q && notNilI a)) = true) (hva : VR ω μ a a') (hvb : VR ω μ b b') :
    (Op.equal t a' b').run P w = .ok (p == q) w ∧ ¬ (a' = .nilIface ∧ b' = .nilIface) ∧ (∀ c d, ¬ (a' = .agg c ∧ b' = .agg d)) ∧ (∀ k n, a' ≠ .int k n) ∧ (∀ s, a' ≠ .string s) ∧ (∀ k n, a' ≠ .float k n) ∧ (∀ k n m, a' ≠ .complex k n m) := by
  have key : ∀ x y : Value, (Op.equal t x y).run P w = (match d, x, y with
    | .pointer _, .pointer none, .pointer b => .ok b.isNone w
    | .pointer _, .pointer _, .pointer none => .ok false w
    | .interface _, .nilIface, .iface _ _ | .interface _, .iface _ _, .nilIface => .ok false w
    | .slice _, .slice none _ _, .slice b _ _ => .ok b.isNone w
    | .slice _, .slice _ _ _, .slice none _ _ => .ok false w
    | .map _ _, .map none, .map b => .ok b.isNone w
    | .map _ _, .map _, .map none => .ok false w
    | .func _ _ _, .nilFunc, .nilFunc => .ok true w
    | .func _ _ _, .nilFunc, .func _ _ _ | .func _ _ _, .func _ _ _, .nilFunc => .ok false w
    | _, _, _ => (Op.equal t x y).run P w) := by
    intro x y
    have hu' := hu
    split <;> first
      | rfl
      | (unfold Op.equal Op.maxDepth
         rw [show (10000 : Nat) = 9999 + 1 from rfl, Op.equalIn]
         rw [Sem.run_bind, run_und w (by assumption), Result.andThen_ok]
         first
           | rfl
           | (cases ‹Option Addr› <;> first | rfl | (exfalso; simp_all; done))
           | (cases ‹Option Nat› <;> first | rfl | (exfalso; simp_all; done)))
  rw [key]
  cases d <;> cases a <;> simp [nilKind] at ha <;> cases b <;> simp [nilKind] at hb <;> simp only [isNil, Option.some.injEq] at hp hq <;> subst hp <;> subst hq <;> (try (simp at hx; done))
  all_goals
    cases hva <;> cases hvb <;> first
      | (simp [notNilI] at hx; done)
      | exact ⟨rfl, by simp, by simp, by simp, by simp, by simp, by simp⟩
end ops
end Go.Ev



namespace Go.Ev
open Go Go.RowKit
section ops
variable {P : Program} {ω : Nat → Value} {B : Nat} {W0 : World} {μ : Mp} {w : World} {s s' : St} {call : FuncId → List Value → E Value} {ρ ρ' : Operand → Value}
theorem binOp_eql {t : TypeId} {a b : Value} {r : Bool} (h1 : ∀ k n, a ≠ .int k n) (h2 : ∀ s, a ≠ .string s) (h3 : ∀ k n, a ≠ .float k n) (h4 : ∀ k n m, a ≠ .complex k n m) (h : (Op.equal t a b).run P w = .ok r w) :
    (binOp .eql t a b).run P w = .ok (.bool r) w ∧ (binOp .neq t a b).run P w = .ok (.bool (!r)) w := by
  have e1 : binOp .eql t a b = (do pure (.bool (← Op.equal t a b))) := by
    cases a <;> first | rfl | exact absurd rfl (h1 _ _) | exact absurd rfl (h2 _) | exact absurd rfl (h3 _ _) | exact absurd rfl (h4 _ _ _)
  have e2 : binOp .neq t a b = (do pure (.bool (!(← Op.equal t a b)))) := by
    cases a <;> first | rfl | exact absurd rfl (h1 _ _) | exact absurd rfl (h2 _) | exact absurd rfl (h3 _ _) | exact absurd rfl (h4 _ _ _)
  rw [e1, e2]
  constructor <;> rw [Sem.run_bind, h, Result.andThen_ok] <;> rfl
theorem nilEq_ok {op : BinOp} {t : TypeId} {x y : Operand} {a b a' b' v : Value} (h : nilEq P op t a b s = some (v, s')) (ha : VR ω μ a a') (hb : VR ω μ b b') (hR : Rel ω B W0 μ s.heap w) :
    Gives P (do eqGuard op t x y a' b'; binOp op t a' b') w (Post ω B W0 μ s s' v) := by
  unfold nilEq at h
  obtain ⟨d, s1, h1, h2⟩ := bind_inv h
  obtain ⟨hu, rfl⟩ := opt_inv h1
  obtain ⟨p, s2, h3, h4⟩ := bind_inv h2
  obtain ⟨hp, rfl⟩ := opt_inv h3
  obtain ⟨q, s3, h5, h6⟩ := bind_inv h4
  obtain ⟨hq, rfl⟩ := opt_inv h5
  obtain ⟨hg, h7⟩ := guard_inv h6
  simp only [Bool.not_eq_false', Bool.and_eq_true] at hg
  obtain ⟨⟨g1, g2⟩, g3⟩ := hg
  obtain ⟨e1, e2, e3, e4, e5, e6, e7⟩ := equal_nil (w := w) hu hp hq g1 g2 g3 ha hb
  obtain ⟨r1, r2⟩ := binOp_eql e4 e5 e6 e7 e1
  obtain ⟨m, hm, hh⟩ := app h7
  clear h7 h6 h5 h4 h3 h2 h1 h
  split at hm <;> subst hm
  · obtain ⟨rfl, rfl⟩ := pure_inv hh
    exact bin_gives e2 e3 r1 (Post.same hR (.bool _))
  · obtain ⟨rfl, rfl⟩ := pure_inv hh
    exact bin_gives e2 e3 r2 (Post.same hR (.bool _))
  · cases hh
theorem ifaceEq_inv {op : BinOp} {t : TypeId} {r : Bool} {v : Value} (h : ifaceEq? P op t r = some v) : ∃ ms, P.underlying t = some (.interface ms) ∧ ((op = .eql ∧ v = .bool r) ∨ (op = .neq ∧ v = .bool (!r))) := by
  unfold ifaceEq? at h
  cases hu : P.underlying t with
  | none => rw [hu] at h; cases h
  | some d =>
    rw [hu] at h
    cases d
    case interface ms =>
      refine ⟨ms, rfl, ?_⟩
      cases op <;> first | (cases h; done) | exact .inl ⟨rfl, (Option.some.inj h).symm⟩ | exact .inr ⟨rfl, (Option.some.inj h).symm⟩
    all_goals cases h
theorem bin_both {op : BinOp} {t : TypeId} {x y : Operand} {a b v : Value} {r : Bool} {R : Value → World → Prop} (h1 : ∀ k n, a ≠ .int k n) (h2 : ∀ s, a ≠ .string s) (h3 : ∀ k n, a ≠ .float k n) (h4 : ∀ k n m, a ≠ .complex k n m) (he : (Op.equal t a b).run P w = .ok r w)
    (hop : (op = .eql ∧ v = .bool r) ∨ (op = .neq ∧ v = .bool (!r))) (hg : (eqGuard op t x y a b).run P w = .ok () w) (hR : R v w) : Gives P (do eqGuard op t x y a b; binOp op t a b) w R := by
  obtain ⟨r1, r2⟩ := binOp_eql h1 h2 h3 h4 he
  rcases hop with ⟨rfl, rfl⟩ | ⟨rfl, rfl⟩
  · exact Gives.of_run (by rw [Sem.run_bind, hg, Result.andThen_ok, r1]) hR
  · exact Gives.of_run (by rw [Sem.run_bind, hg, Result.andThen_ok, r2]) hR
theorem equal_held {t a b : TypeId} {ms : Array (String × TypeId)} {u v u' v' : Value} {r : Bool} (ht : P.underlying t = some (.interface ms)) (h : sameHeld? P a u b v = some r) (hu : VR ω μ u u') (hv : VR ω μ v v') : (Op.equal t (.iface a u') (.iface b v')).run P w = .ok r w := by
  unfold Op.equal Op.maxDepth
  rw [show (10000 : Nat) = 9999 + 1 from rfl, Op.equalIn, Sem.run_bind, run_und w ht, Result.andThen_ok]
  dsimp only
  unfold sameHeld? at h
  cases hb : Nat.beq a b with
  | false =>
    rw [hb] at h
    have hr : false = r := Option.some.inj h
    rw [if_pos (Nat.ne_of_beq_eq_false hb), ← hr]
    rfl
  | true =>
    rw [hb] at h
    have hab := Nat.eq_of_beq_eq_true hb
    subst hab
    rw [if_neg (by simp)]
    cases u
    case int k m =>
      cases v
      case int k' n =>
        cases hu; cases hv
        have h' : (bif Nat.beq (kNum k) (kNum k') then (match P.info? a, P.underlying a with | some i, some (.int _) => bif i.comparable then some (eqI m n) else none | _, _ => none) else none) = some r := h
        clear h
        have hkk : k = k' := by
          cases hk : Nat.beq (kNum k) (kNum k') with
          | false => rw [hk] at h'; cases h'
          | true =>
            have := Nat.eq_of_beq_eq_true hk
            revert this; cases k <;> cases k' <;> simp [kNum]
        subst hkk
        rw [Nat.beq_refl] at h'
        cases hi : P.info? a with
        | none => rw [hi] at h'; cases h'
        | some i =>
          rw [hi] at h'
          cases hd : P.underlying a with
          | none => rw [hd] at h'; cases h'
          | some d =>
            rw [hd] at h'
            cases d
            case int ki =>
              have h2 : (bif i.comparable then some (eqI m n) else none) = some r := h'
              cases hc : i.comparable with
              | false => rw [hc] at h2; cases h2
              | true =>
                rw [hc] at h2
                have hr : eqI m n = r := Option.some.inj h2
                have e : eqI m n = (m == n) := by
                  cases m <;> cases n <;> simp only [eqI] <;> rw [Bool.eq_iff_iff] <;> simp [Nat.beq_eq] <;> omega
                rw [Sem.run_bind, run_info w hi, Result.andThen_ok]
                rw [if_neg (by simp [hc])]
                rw [show (9999 : Nat) = 9998 + 1 from rfl, Op.equalIn, Sem.run_bind, run_und w hd, Result.andThen_ok]
                dsimp only
                rw [if_pos rfl, ← hr, e]
                rfl
            all_goals cases h'
      all_goals cases h
    all_goals cases h
theorem armBin_ok {op : BinOp} {t : TypeId} {x y : Operand} {v : Value} (h : armBin op t x y P call ρ s = some (v, s')) (hρ : ∀ x, VR ω μ (ρ x) (ρ' x)) (hR : Rel ω B W0 μ s.heap w) :
    Gives P (do eqGuard op t x y (ρ' x) (ρ' y); binOp op t (ρ' x) (ρ' y)) w (Post ω B W0 μ s s' v) := by
  unfold armBin at h
  have hx := hρ x
  have hy := hρ y
  obtain ⟨m, hm, hh⟩ := app h
  clear h
  split at hm <;> subst hm
  · rename_i k i k' j hrx hry
    rw [hrx] at hx; rw [hry] at hy
    rw [VR.flat rfl hx, VR.flat rfl hy]
    obtain ⟨m, hm, hh⟩ := app hh
    split at hm <;> subst hm
    · rename_i v' hf
      obtain ⟨rfl, rfl⟩ := pure_inv hh
      exact bin_gives (by simp) (by simp) (fastInt_ok hf) (Post.same hR (VR.refl_flat (fastInt_flat hf)))
    · obtain ⟨h1, h2, rfl⟩ := pureVal_inv hh
      exact bin_gives (by simp) (by simp) (evalPure_run h1 w) (Post.same hR (VR.refl_flat h2))
  · rename_i a b hrx hry
    rw [hrx] at hx; rw [hry] at hy
    rw [VR.flat rfl hx, VR.flat rfl hy]
    obtain ⟨h1, h2, rfl⟩ := pureVal_inv hh
    exact bin_gives (by simp) (by simp) (evalPure_run h1 w) (Post.same hR (VR.refl_flat h2))
  · rename_i a b hrx hry
    rw [hrx] at hx; rw [hry] at hy
    rw [VR.flat rfl hx, VR.flat rfl hy]
    obtain ⟨h1, h2, rfl⟩ := pureVal_inv hh
    exact bin_gives (by simp) (by simp) (evalPure_run h1 w) (Post.same hR (VR.refl_flat h2))
  · rename_i k a k' b hrx hry
    rw [hrx] at hx; rw [hry] at hy
    rw [VR.flat rfl hx, VR.flat rfl hy]
    obtain ⟨h1, h2, rfl⟩ := pureVal_inv hh
    exact bin_gives (by simp) (by simp) (evalPure_run h1 w) (Post.same hR (VR.refl_flat h2))
  · rename_i k a b k' c d hrx hry
    rw [hrx] at hx; rw [hry] at hy
    rw [VR.flat rfl hx, VR.flat rfl hy]
    obtain ⟨h1, h2, rfl⟩ := pureVal_inv hh
    exact bin_gives (by simp) (by simp) (evalPure_run h1 w) (Post.same hR (VR.refl_flat h2))
  · rename_i hrx hry
    rw [hrx] at hx; rw [hry] at hy
    rw [VR.flat rfl hx, VR.flat rfl hy]
    obtain ⟨hg, h1⟩ := guard_inv' hh
    obtain ⟨h2, rfl⟩ := opt_inv h1
    obtain ⟨ms, hu, hop⟩ := ifaceEq_inv h2
    refine bin_both (r := true) (by simp) (by simp) (by simp) (by simp) ?_ hop ?_ ?_
    · unfold Op.equal Op.maxDepth
      rw [show (10000 : Nat) = 9999 + 1 from rfl, Op.equalIn, Sem.run_bind, run_und w hu, Result.andThen_ok]
      rfl
    · unfold eqGuard
      rcases hop with ⟨rfl, _⟩ | ⟨rfl, _⟩ <;> (cases x <;> first | rfl | (cases y <;> first | rfl | (cases hg; done)))
    · rcases hop with ⟨_, rfl⟩ | ⟨_, rfl⟩ <;> exact Post.same hR (.bool _)
  · rename_i a u b v' hrx hry
    rw [hrx] at hx; rw [hry] at hy
    generalize hx' : ρ' x = x' at hx
    generalize hy' : ρ' y = y' at hy
    cases hx with
    | iface _ _ u2 hv =>
      cases hy with
      | iface _ _ v2 hv2 =>
        obtain ⟨r, s1, g1, g2⟩ := bind_inv hh
        obtain ⟨hs, rfl⟩ := opt_inv g1
        obtain ⟨h2, rfl⟩ := opt_inv g2
        obtain ⟨ms, hu, hop⟩ := ifaceEq_inv h2
        refine bin_both (r := r) (by simp) (by simp) (by simp) (by simp) (equal_held hu hs hv hv2) hop ?_ ?_
        · unfold eqGuard
          rcases hop with ⟨rfl, _⟩ | ⟨rfl, _⟩ <;> rfl
        · rcases hop with ⟨_, rfl⟩ | ⟨_, rfl⟩ <;> exact Post.same hR (.bool _)
  · exact nilEq_ok hh hx hy hR

/-- A piece of a row of cells. -/
theorem part_ok {t : TypeId} {cs cs' : Array Value} {off : Nat} {v : Value} (h : part? P t cs off = some v) (hs : VRs ω μ cs.toList cs'.toList) : ∃ v', (part t cs' off).run P w = .ok v' w ∧ VR ω μ v v' := by
  unfold part? at h
  split at h
  · cases h
  · rename_i hag
    cases hz : size? P t with
    | none => rw [hz] at h; cases h
    | some z =>
      rw [hz] at h
      cases h
      refine ⟨.agg (cs'.extract off (off + z)), by simp [part, run_isAgg w hag, run_size w hz], ?_⟩
      have : VRs ω μ (cs.extract off (off + z)).toList (cs'.extract off (off + z)).toList := by
        simpa using (hs.drop off).take (off + z - off)
      exact VR.agg _ _ (by have := this.1; rwa [Array.length_toList, Array.length_toList] at this) (fun i v v' e e' => this.2 i v v' (by rw [Array.getElem?_toList]; exact e) (by rw [Array.getElem?_toList]; exact e'))
  · rename_i hag
    obtain ⟨v', hv', hr⟩ := hs.get (show cs.toList[off]? = some v by simpa using h)
    have hv2 : cs'[off]? = some v' := by simpa using hv'
    refine ⟨v', ?_, hr⟩
    simp [part, run_isAgg w hag, hv2]
theorem armField_ok {t : TypeId} {x : Operand} {f : Nat} {v : Value} (h : armField t x f P call ρ s = some (v, s')) (hρ : ∀ x, VR ω μ (ρ x) (ρ' x)) (hR : Rel ω B W0 μ s.heap w) :
    Gives P (Instr.field t (ρ' x) f) w (Post ω B W0 μ s s' v) := by
  unfold armField at h
  have hx := hρ x
  obtain ⟨m, hm, hh⟩ := app h
  clear h
  split at hm <;> subst hm
  · rename_i cs fs hrx hu
    obtain ⟨h1, rfl⟩ := opt_inv hh
    rw [hrx] at hx
    generalize ρ' x = u at hx ⊢
    cases hx with
    | agg _ cs' ha hv =>
      cases hf : fs[f]? with
      | none => rw [hf] at h1; cases h1
      | some fd =>
        rw [hf] at h1
        obtain ⟨v', hr, hvr⟩ := part_ok (w := w) (show part? P fd.type cs fd.offset = some v from h1) (VRs.of_arrays ha hv)
        refine Gives.of_run (a := v') (w' := w) ?_ (Post.same hR hvr)
        simp [Instr.field, run_und w hu, hf, asAgg, hr]
  · cases hh
theorem armIndex_ok {t : TypeId} {x i : Operand} {v : Value} (h : armIndex t x i P call ρ s = some (v, s')) (hρ : ∀ x, VR ω μ (ρ x) (ρ' x)) (hR : Rel ω B W0 μ s.heap w) :
    Gives P (Instr.index t (ρ' x) (ρ' i)) w (Post ω B W0 μ s s' v) := by
  unfold armIndex at h
  have hx := hρ x
  have hi := hρ i
  obtain ⟨m, hm, hh⟩ := app h
  clear h
  split at hm <;> subst hm
  · rename_i cs n e hrx hu
    obtain ⟨j, s2, h3, h4⟩ := bind_inv hh
    obtain ⟨hj, rfl⟩ := opt_inv h3
    obtain ⟨z, s3, h5, h6⟩ := bind_inv h4
    obtain ⟨hz, rfl⟩ := opt_inv h5
    obtain ⟨h7, rfl⟩ := opt_inv h6
    obtain ⟨kd, hki, hlt⟩ := index_inv hj
    rw [hki] at hi; rw [hrx] at hx
    rw [VR.flat rfl hi]
    generalize ρ' x = u at hx ⊢
    cases hx with
    | agg _ cs' ha hv =>
      obtain ⟨v', hr, hvr⟩ := part_ok (w := w) h7 (VRs.of_arrays ha hv)
      refine Gives.of_run (a := v') (w' := w) ?_ (Post.same hR hvr)
      simp [Instr.index, asIntOf, run_und w hu, hlt, run_size w hz, hr]
  · rename_i st hrx hu
    obtain ⟨j, s2, h3, h4⟩ := bind_inv hh
    obtain ⟨hj, rfl⟩ := opt_inv h3
    obtain ⟨b, s3, h5, h6⟩ := bind_inv h4
    obtain ⟨hb, rfl⟩ := opt_inv h5
    obtain ⟨rfl, rfl⟩ := pure_inv h6
    obtain ⟨kd, hki, hlt⟩ := index_inv hj
    rw [hki] at hi; rw [hrx] at hx
    rw [VR.flat rfl hi, VR.flat rfl hx]
    refine Gives.of_run (a := .int .u8 b.toNat) (w' := w) ?_ (Post.same hR (.int _ _))
    have hget : st[j]? = some b := by
      have h1 : st[j]? = some (st[j]'hlt) := getElem?_pos st j hlt
      have h2 : st.data[j]? = some (st.data[j]'hlt) := getElem?_pos st.data j hlt
      rw [hb] at h2
      rw [h1, h2]; rfl
    simp [Instr.index, asIntOf, run_und w hu, hget]
  · cases hh
end ops
end Go.Ev



namespace Go.Ev
open Go Go.RowKit
section ops
variable {P : Program} {ω : Nat → Value} {B : Nat} {W0 : World} {μ : Mp} {w : World} {s s' : St} {call : FuncId → List Value → E Value} {ρ ρ' : Operand → Value}

/-- Filling a row: alike parts give alike rows. -/
theorem foldl_set_VRs {x x' : List Value} (hx : VRs ω μ x x') : ∀ (k off : Nat) (c c' : Array Value), VRs ω μ c.toList c'.toList →
    VRs ω μ ((x.zipIdx k).foldl (fun cs p => cs.setIfInBounds (off + p.2) p.1) c).toList ((x'.zipIdx k).foldl (fun cs p => cs.setIfInBounds (off + p.2) p.1) c').toList := by
  induction x generalizing x' with
  | nil =>
    intro k off c c' hc
    have : x' = [] := List.length_eq_zero_iff.1 hx.1.symm
    subst this; exact hc
  | cons v x ih =>
    intro k off c c' hc
    cases x' with
    | nil => have := hx.1; simp at this
    | cons v' x' =>
      have hv : VR ω μ v v' := hx.2 0 v v' rfl rfl
      have hxs : VRs ω μ x x' := ⟨by have := hx.1; simpa using this, fun i a b e e' => hx.2 (i + 1) a b (by simpa using e) (by simpa using e')⟩
      simp only [List.zipIdx_cons, List.foldl_cons]
      refine ih hxs (k + 1) off _ _ ⟨by simp [hc.1], fun i a b e e' => ?_⟩
      simp only [Array.toList_setIfInBounds, List.getElem?_set] at e e'
      by_cases hi : off + k = i
      · rw [if_pos hi] at e e'
        by_cases h1 : off + k < c.toList.length
        · have h2 : off + k < c'.toList.length := by rw [← hc.1]; exact h1
          rw [if_pos h1] at e; rw [if_pos h2] at e'
          cases e; cases e'; exact hv
        · rw [if_neg h1] at e; cases e
      · rw [if_neg hi] at e e'
        exact hc.2 i a b e e'
theorem fill_ok {pl : Nat → Option (Nat × Nat)} : ∀ {ps ps' : List (Nat × Value)} {c c' r : Array Value}, Instr.fill pl c ps = some r → ps.length = ps'.length →
    (∀ (i : Nat) (a b : Nat × Value), ps[i]? = some a → ps'[i]? = some b → a.1 = b.1 ∧ VRs ω μ a.2.cells.toList b.2.cells.toList) → VRs ω μ c.toList c'.toList → ∃ r', Instr.fill pl c' ps' = some r' ∧ VRs ω μ r.toList r'.toList := by
  intro ps
  induction ps with
  | nil =>
    intro ps' c c' r h hl _ hc
    have : ps' = [] := List.length_eq_zero_iff.1 hl.symm
    subst this
    simp only [Instr.fill, Option.some.injEq] at h
    subst h
    exact ⟨c', rfl, hc⟩
  | cons p ps ih =>
    intro ps' c c' r h hl hp hc
    obtain ⟨i, v⟩ := p
    cases ps' with
    | nil => simp at hl
    | cons p' ps' =>
      obtain ⟨i', v'⟩ := p'
      obtain ⟨hi, hv⟩ := hp 0 (i, v) (i', v') rfl rfl
      dsimp only at hi hv
      subst hi
      simp only [Instr.fill] at h ⊢
      cases hpl : pl i with
      | none => rw [hpl] at h; cases h
      | some oz =>
        obtain ⟨off, size⟩ := oz
        rw [hpl] at h
        dsimp only at h ⊢
        have hsz : v.cells.size = v'.cells.size := by have := hv.1; simpa using this
        have hcs : c.size = c'.size := by have := hc.1; simpa using this
        rw [← hsz, ← hcs]
        split at h
        · cases h
        · rename_i hcond
          rw [if_neg hcond]
          refine ih h (by simpa using hl) (fun j a b e e' => hp (j + 1) a b (by simpa using e) (by simpa using e')) ?_
          have this := foldl_set_VRs (ω := ω) (μ := μ) hv 0 off c c' hc
          have e : ∀ (u : Value) (d : Array Value), Array.foldl (fun cs (x : Value × Nat) => cs.setIfInBounds (off + x.2) x.1) d u.cells.zipIdx = (u.cells.toList.zipIdx 0).foldl (fun cs p => cs.setIfInBounds (off + p.2) p.1) d := fun u d => by
            rw [← Array.foldl_toList, Array.toList_zipIdx]
          show VRs ω μ (Array.foldl (fun cs (x : Value × Nat) => cs.setIfInBounds (off + x.2) x.1) c v.cells.zipIdx).toList (Array.foldl (fun cs (x : Value × Nat) => cs.setIfInBounds (off + x.2) x.1) c' v'.cells.zipIdx).toList
          rw [e, e]
          exact this
theorem parts_ok (hω : ∀ k, (ω k).oneCell' = true) (hρ : ∀ x, VR ω μ (ρ x) (ρ' x)) (ps : List (Nat × Operand)) (hj : ps.all (fun p => notJunk (ρ p.2)) = true) :
    ∀ (i : Nat) (a b : Nat × Value), (ps.map fun (i, x) => (i, ρ x))[i]? = some a → (ps.map fun (i, x) => (i, ρ' x))[i]? = some b → a.1 = b.1 ∧ VRs ω μ a.2.cells.toList b.2.cells.toList := by
  intro i a b e e'
  simp only [List.getElem?_map] at e e'
  cases hp : ps[i]? with
  | none => rw [hp] at e; cases e
  | some p =>
    rw [hp] at e e'
    cases e; cases e'
    refine ⟨rfl, (hρ p.2).cells hω ?_⟩
    have := List.all_eq_true.1 hj p (List.mem_of_getElem? hp)
    intro e; rw [e] at this; cases this
theorem places_run {t : TypeId} {v0 : Value} {pl : Nat → Option (Nat × Nat)} (h : places? P t = some pl) (w : World) (zero : Array Value) (parts : Array (Nat × Value)) {cells : Array Value} (hz : zero? P t = some v0) (hzc : v0.cells = zero) (hf : Instr.fill pl zero parts.toList = some cells) :
    (Instr.build t parts).run P w = .ok (.agg cells) w := by
  unfold places? at h
  split at h
  · rename_i fs hu
    cases hm : evalPure P (fs.mapM fun f => do pure (f.offset, ← sizeOf f.type)) with
    | none => rw [hm] at h; cases h
    | some ps =>
      rw [hm] at h
      cases h
      have := evalPure_run hm w
      unfold Instr.build
      rw [Sem.run_bind, run_zero w hz, Result.andThen_ok]
      dsimp only
      rw [Sem.run_bind, run_und w hu, Result.andThen_ok]
      dsimp only
      rw [Sem.run_bind, this, Result.andThen_ok, hzc]
      rw [show Instr.fill (fun x => ps[x]?) zero parts.toList = some cells from hf]
      rfl
  · rename_i n e hu
    cases hs : size? P e with
    | none => rw [hs] at h; cases h
    | some z =>
      rw [hs] at h
      cases h
      simp [Instr.build, run_zero w hz, run_und w hu, hzc, run_size w hs, hf]
  · cases h
theorem armBuild_ok {t : TypeId} {ps : Array (Nat × Operand)} {v : Value} (hω : ∀ k, (ω k).oneCell' = true) (h : armBuild t ps P call ρ s = some (v, s')) (hρ : ∀ x, VR ω μ (ρ x) (ρ' x)) (hR : Rel ω B W0 μ s.heap w) :
    Gives P (Instr.build t (ps.map fun (i, x) => (i, ρ' x))) w (Post ω B W0 μ s s' v) := by
  unfold armBuild at h
  obtain ⟨z, s1, h1, h2⟩ := bind_inv h
  obtain ⟨hz, rfl⟩ := opt_inv h1
  obtain ⟨pl, s2, h3, h4⟩ := bind_inv h2
  obtain ⟨hpl, rfl⟩ := opt_inv h3
  obtain ⟨hg, h5⟩ := guard_inv' h4
  simp only [Bool.and_eq_true] at hg
  obtain ⟨hg1, hg2⟩ := hg
  obtain ⟨cells, s3, h6, h7⟩ := bind_inv h5
  obtain ⟨hfl, rfl⟩ := opt_inv h6
  obtain ⟨rfl, rfl⟩ := pure_inv h7
  obtain ⟨r', hr', hv⟩ := fill_ok (ω := ω) (μ := μ) (c' := z.cells) hfl (ps' := ps.toList.map fun (i, x) => (i, ρ' x)) (by simp) (parts_ok hω hρ ps.toList hg2) (VRs.refl_flat hg1)
  refine Gives.of_run (a := .agg r') (w' := w) ?_ (Post.same hR ?_)
  · exact places_run hpl w z.cells _ hz rfl (by simpa using hr')
  · have := VR.agg_of hv
    simpa using this
end ops
end Go.Ev



namespace Go.Ev
open Go Go.RowKit
section ops
variable {P : Program} {ω : Nat → Value} {B : Nat} {W0 : World} {μ : Mp} {w : World} {s s' : St} {call : FuncId → List Value → E Value} {ρ ρ' : Operand → Value}

theorem sliceElem_inv {t e : TypeId} (h : sliceElem? P t = some e) : P.underlying t = some (.slice e) := by
  unfold sliceElem? at h
  split at h
  · cases h; assumption
  · cases h
/-- A new row, as a slice. -/
theorem newSlice_ok {e e' : TypeId} {c us rest : List Value} {n k z : Nat} (hR : Rel ω B W0 μ s.heap w) (h4 : 4096 ≤ s.next) (hf : μ s.next = none) (hs : VRs ω μ c us) (hk : n ≤ k) (hroom : k * z ≤ us.length + rest.length) :
    Post ω B W0 μ s { heap := s.heap.set s.next (.cells c e), next := s.next + 1, low := s.low, mask := s.mask } (.slice (some ⟨s.next, 0, none⟩) n z) (.slice (some ⟨w.heap.size, 0, none⟩) n k) (w.alloc (.cells (us ++ rest).toArray e')) := by
  obtain ⟨μ', he, hr, hm⟩ := nw_ok (R := .cells (us ++ rest).toArray e') (room := us.length + rest.length) (o := .cells c e) hR h4 hf (fun μ' hx => ObjR.newCells (hs.ext hx) rfl)
  refine ⟨μ', he, hr, ?_⟩
  have := VR.slice (ω := ω) s.next 0 n z k _ hm hk (by dsimp only; omega)
  simpa using this
theorem getBang (a : Array Value) (i : Nat) (h : i < a.size) : a[i]! = a[i] := getElem!_pos a i h
/-- So many values, one behind the other, again and again. -/
theorem replicate_flat (z : Array Value) (n : Nat) (hz : 0 < z.size) : ((Array.range (n * z.size)).map fun i => z[i % z.size]!).toList = (List.replicate n z.toList).flatten := by
  induction n with
  | zero => simp
  | succ n ih =>
    rw [List.replicate_succ', List.flatten_append, ← ih]
    simp only [Array.toList_map, Array.toList_range, Nat.succ_mul, List.range_add, List.map_append, List.map_map, List.flatten_cons, List.flatten_nil, List.append_nil]
    congr 1
    apply List.ext_getElem
    · simp
    · intro i h1 h2
      simp at h1
      simp only [List.getElem_map, List.getElem_range, Function.comp_apply, Array.getElem_toList]
      have : (n * z.size + i) % z.size = i := by rw [Nat.mul_comm, Nat.mul_add_mod]; exact Nat.mod_eq_of_lt h1
      rw [this, getBang z i h1]
theorem replicate_zero (n : Nat) : ((Array.range (n * 0)).map fun i => (#[] : Array Value)[i % 0]!).toList = [] := by simp
theorem zeros_inv {e : TypeId} {n z : Nat} {l : List Value} (h : zeros P e n z = some l) : ∃ v, zero? P e = some v ∧ v.cells.size = z ∧ v.cells.toList.all flat = true ∧ l = (List.replicate n v.cells.toList).flatten := by
  unfold zeros at h
  cases hv : zero? P e with
  | none => rw [hv] at h; cases h
  | some v =>
    rw [hv] at h
    have h' : (bif Nat.beq v.cells.size z && v.cells.toList.all flat then some (List.replicate n v.cells.toList).flatten else none) = some l := h
    cases hb : (Nat.beq v.cells.size z && v.cells.toList.all flat) with
    | false => rw [hb] at h'; cases h'
    | true =>
      rw [hb] at h'
      cases h'
      simp only [Bool.and_eq_true] at hb
      exact ⟨v, rfl, Nat.eq_of_beq_eq_true hb.1, hb.2, rfl⟩
theorem flat_flatten {z : List Value} (h : z.all flat = true) (n : Nat) : ((List.replicate n z).flatten).all flat = true := by
  rw [List.all_eq_true] at h ⊢
  intro v hv
  obtain ⟨l, hl, hv⟩ := List.mem_flatten.1 hv
  rw [List.eq_of_mem_replicate hl] at hv
  exact h v hv
theorem armMakeSlice_ok {t : TypeId} {n k : Operand} {v : Value} (h : armMakeSlice t n k P call ρ s = some (v, s')) (hρ : ∀ x, VR ω μ (ρ x) (ρ' x)) (hR : Rel ω B W0 μ s.heap w) (h4 : 4096 ≤ s.next) (hf : Fresh μ s.next s'.next) :
    Gives P (Instr.makeSlice t (ρ' n) (ρ' k)) w (Post ω B W0 μ s s' v) := by
  unfold armMakeSlice at h
  obtain ⟨e, s1, h1, h2⟩ := bind_inv h
  obtain ⟨he, rfl⟩ := opt_inv h1
  obtain ⟨i, s2, h3, h5⟩ := bind_inv h2
  obtain ⟨hi, rfl⟩ := opt_inv h3
  obtain ⟨z, s3, h6, h7⟩ := bind_inv h5
  obtain ⟨hz, rfl⟩ := opt_inv h6
  have hn := hρ n
  have hk := hρ k
  obtain ⟨m, hm, hh⟩ := app h7
  clear h7
  split at hm <;> subst hm
  · rename_i kn a kk b hrn hrk
    obtain ⟨hg, h8⟩ := guard_inv' hh
    simp only [Bool.and_eq_true] at hg
    obtain ⟨⟨⟨⟨g1, g2⟩, g3⟩, g4⟩, g5⟩ := hg
    have g1 := Nat.le_of_ble_eq_true g1
    have g2 := Nat.le_of_ble_eq_true g2
    have g3 := Nat.le_of_ble_eq_true g3
    have g4 := Nat.eq_of_beq_eq_true g4
    obtain ⟨y, s4, h9, h10⟩ := bind_inv h8
    obtain ⟨rfl, rfl⟩ := nw_inv h9
    obtain ⟨rfl, rfl⟩ := pure_inv h10
    rw [hrn] at hn; rw [hrk] at hk
    rw [VR.flat rfl hn, VR.flat rfl hk]
    have hu := sliceElem_inv he
    have hz0 : zero? P e = some z := by unfold zero?; rw [hi]; exact hz
    have hz1 : size? P e = some i.size := by unfold size?; rw [hi]; rfl
    have hwa : IntKind.i64.wrap (Int.ofNat a) = (a : Int) := by
      rw [← wrapK_eq]; show wrapK .i64 (a : Int) = _; unfold wrapK
      have : Int.emod (a : Int) (Int.ofNat 18446744073709551616) = Int.ofNat a := by
        show (a : Int) % (18446744073709551616 : Int) = (a : Int); omega
      rw [this]
      have hb : Nat.blt a 9223372036854775808 = true := by rw [blt_dec]; exact decide_eq_true (by omega)
      simp [hb]
    have hwb : IntKind.i64.wrap (Int.ofNat b) = (b : Int) := by
      rw [← wrapK_eq]; show wrapK .i64 (b : Int) = _; unfold wrapK
      have : Int.emod (b : Int) (Int.ofNat 18446744073709551616) = Int.ofNat b := by
        show (b : Int) % (18446744073709551616 : Int) = (b : Int); omega
      rw [this]
      have hb : Nat.blt b 9223372036854775808 = true := by rw [blt_dec]; exact decide_eq_true (by omega)
      simp [hb]
    have hmul : i.bytes * b ≤ 1000 * 1000000 := Nat.mul_le_mul g3 g2
    have hbytes : ¬ ((i.bytes : Int) * (b : Int) > 2 ^ 48) := by
      have h0 : i.bytes * b ≤ 1000000000 := hmul
      have : ((i.bytes * b : Nat) : Int) ≤ 1000000000 := by omega
      rw [Int.natCast_mul] at this
      omega
    have hrun : ∀ cells : Array Value, cells = ((Array.range (b * i.size)).map (fun j => z.cells[j % z.cells.size]!)) → (Instr.makeSlice t (.int kn (Int.ofNat a)) (.int kk (Int.ofNat b))).run P w = .ok (.slice (some ⟨w.heap.size, 0, none⟩) a b) (w.alloc (.cells cells e)) := by
      intro cells hc
      unfold Instr.makeSlice
      rw [Sem.run_bind, run_und w hu, Result.andThen_ok]
      simp only [asInt, asIntOf, Sem.run_bind, Sem.run_pure, Result.andThen_ok, run_info w hi, hwa, hwb]
      have c1 : decide ((b : Int) < 0) = false := decide_eq_false (by omega)
      have c2 : decide ((i.bytes : Int) * (b : Int) > 2 ^ 48) = false := decide_eq_false hbytes
      have c3 : decide ((a : Int) < 0) = false := decide_eq_false (by omega)
      have c4 : decide ((a : Int) > (b : Int)) = false := decide_eq_false (by omega)
      simp only [c1, c2, c3, c4, Bool.or_false, Bool.false_eq_true, if_false]
      simp only [Sem.run_bind, Sem.run_pure, Result.andThen_ok, run_askRoom, run_size w hz1, Int.toNat_natCast]
      by_cases hb0 : b * i.size = 0
      · rw [if_pos hb0]
        simp only [Sem.run_pure, Result.andThen_ok, newRow, Sem.run_bind, run_newObj, hb0]
        subst hc
        rw [hb0]
        have hr : ∀ f : Nat → Value, Array.map f (Array.range 0) = #[] := fun f => Array.toList_inj.1 (by rw [Array.toList_map, Array.toList_range]; rfl)
        rw [hr, hr]
        rfl
      · rw [if_neg hb0]
        simp only [Sem.run_bind, run_zero w hz0, Sem.run_pure, Result.andThen_ok, newRow, run_newObj]
        subst hc
        rfl
    refine Gives.of_run (hrun _ rfl) ?_
    have hl : ((Array.range (b * i.size)).map (fun j => z.cells[j % z.cells.size]!)).toList = (List.replicate b z.cells.toList).flatten := by
      by_cases hz' : z.cells.size = 0
      · have : z.cells.toList = [] := by simpa using hz'
        rw [← g4, hz', this]; simp
      · rw [← g4]; exact replicate_flat z.cells b (by omega)
    have hp := newSlice_ok (e := e) (e' := e) (rest := []) (n := a) (k := b) (z := i.size) (s := s3) hR h4 (hf _ (Nat.le_refl _) (by dsimp only; omega)) (VRs.refl_flat (flat_flatten g5 b)) g1 (by simp [List.length_flatten, g4])
    rw [List.append_nil, ← hl] at hp
    rw [hl] at hp
    have e1 : (List.replicate b z.cells.toList).flatten.toArray = ((Array.range (b * i.size)).map (fun j => z.cells[j % z.cells.size]!)) := by rw [← hl]
    rw [e1] at hp
    exact hp
  · cases hh
end ops
end Go.Ev



namespace Go.Ev
open Go Go.RowKit
section ops
variable {P : Program} {ω : Nat → Value} {B : Nat} {W0 : World} {μ : Mp} {w : World} {s s' : St} {call : FuncId → List Value → E Value} {ρ ρ' : Operand → Value}

theorem armBuildSlice_ok {t : TypeId} {n : Nat} {ps : Array (Nat × Operand)} {v : Value} (hω : ∀ k, (ω k).oneCell' = true) (h : armBuildSlice t n ps P call ρ s = some (v, s')) (hρ : ∀ x, VR ω μ (ρ x) (ρ' x)) (hR : Rel ω B W0 μ s.heap w) (h4 : 4096 ≤ s.next) (hf : Fresh μ s.next s'.next) :
    Gives P (Instr.buildSlice t n (ps.map fun (i, x) => (i, ρ' x))) w (Post ω B W0 μ s s' v) := by
  unfold armBuildSlice at h
  obtain ⟨e, s1, h1, h2⟩ := bind_inv h
  obtain ⟨he, rfl⟩ := opt_inv h1
  obtain ⟨z, s2, h3, h5⟩ := bind_inv h2
  obtain ⟨hz, rfl⟩ := opt_inv h3
  obtain ⟨zero, s3, h6, h7⟩ := bind_inv h5
  obtain ⟨hzero, rfl⟩ := opt_inv h6
  obtain ⟨hg, h8⟩ := guard_inv h7
  simp only [Bool.or_eq_false_iff, Bool.not_eq_false'] at hg
  obtain ⟨hg1, hg2⟩ := hg
  have hg1 : n * z < 1000000 := by
    rw [ble_dec] at hg1
    have := of_decide_eq_false hg1
    omega
  obtain ⟨cells, s4, h9, h10⟩ := bind_inv h8
  obtain ⟨hfl, rfl⟩ := opt_inv h9
  obtain ⟨y, s5, h11, h12⟩ := bind_inv h10
  obtain ⟨rfl, rfl⟩ := nw_inv h11
  obtain ⟨rfl, rfl⟩ := pure_inv h12
  have hu := sliceElem_inv he
  -- the zero cells
  have hzz : zero.all flat = true ∧ zero.length = n * z ∧ ∃ zc : Array Value, ((n * z = 0 ∧ zc = #[]) ∨ (n * z ≠ 0 ∧ ∃ zv, zero? P e = some zv ∧ zv.cells = zc)) ∧ ((Array.range (n * z)).map (fun j => zc[j % zc.size]!)).toList = zero := by
    cases hb : Nat.beq (n * z) 0 with
    | true =>
      rw [hb] at hzero
      have h0 : n * z = 0 := Nat.eq_of_beq_eq_true hb
      have hz' : some [] = some zero := hzero
      cases hz'
      refine ⟨rfl, by simp [h0], #[], .inl ⟨h0, rfl⟩, ?_⟩
      rw [h0, Array.toList_map, Array.toList_range]; rfl
    | false =>
      rw [hb] at hzero
      have h0 : n * z ≠ 0 := by intro h0; rw [h0] at hb; cases hb
      obtain ⟨zv, hz1, hz2, hz3, rfl⟩ := zeros_inv (show zeros P e n z = some zero from hzero)
      refine ⟨flat_flatten hz3 n, by simp [List.length_flatten, hz2], zv.cells, .inr ⟨h0, zv, hz1, rfl⟩, ?_⟩
      · rw [← hz2]
        exact replicate_flat zv.cells n (by rw [hz2]; exact Nat.pos_of_ne_zero (fun h => h0 (by rw [h]; simp)))
  obtain ⟨hz1, hz2, zc, hzr, hzl⟩ := hzz
  obtain ⟨r', hr', hv⟩ := fill_ok (ω := ω) (μ := μ) (c' := zero.toArray) hfl (ps' := ps.toList.map fun (i, x) => (i, ρ' x)) (by simp) (parts_ok hω hρ ps.toList hg2) (by simpa using VRs.refl_flat hz1)
  have hrsz : r'.size = n * z := by
    have hlen : ∀ (pl : Nat → Option (Nat × Nat)) (ps : List (Nat × Value)) (c r : Array Value), Instr.fill pl c ps = some r → r.size = c.size := by
      intro pl ps
      induction ps with
      | nil => intro c r h; simp only [Instr.fill, Option.some.injEq] at h; rw [h]
      | cons p ps ih =>
        intro c r h
        obtain ⟨i, v⟩ := p
        simp only [Instr.fill] at h
        cases hpl : pl i with
        | none => rw [hpl] at h; cases h
        | some oz =>
          rw [hpl] at h
          dsimp only at h
          split at h
          · cases h
          · rw [ih _ _ h]
            have : ∀ (l : List (Value × Nat)) (d : Array Value), (l.foldl (fun cs p => cs.setIfInBounds (oz.1 + p.2) p.1) d).size = d.size := by
              intro l
              induction l with
              | nil => intro d; rfl
              | cons a l ih => intro d; rw [List.foldl_cons, ih]; simp
            show (Array.foldl (fun cs (x : Value × Nat) => cs.setIfInBounds (oz.1 + x.2) x.1) c v.cells.zipIdx).size = _
            rw [← Array.foldl_toList]; exact this _ _
    rw [hlen _ _ _ _ hr']; simpa using hz2
  have hrun : (Instr.buildSlice t n (ps.map fun (i, x) => (i, ρ' x))).run P w = .ok (.slice (some ⟨w.heap.size, 0, none⟩) n n) (w.alloc (.cells r' e)) := by
    unfold Instr.buildSlice
    rw [Sem.run_bind, run_und w hu, Result.andThen_ok]
    dsimp only
    rw [Sem.run_bind, run_size w hz, Result.andThen_ok, Sem.run_ite, if_neg (by omega)]
    have e1 : ((Array.range (n * z)).map (fun j => zc[j % zc.size]!)) = zero.toArray := by rw [← hzl]
    have e2 : Instr.fill (fun i => some (i * z, z)) zero.toArray (ps.map fun (i, x) => (i, ρ' x)).toList = some r' := by simpa using hr'
    rcases hzr with ⟨h0, rfl⟩ | ⟨h0, zv, hz1, rfl⟩
    · rw [Sem.run_ite, if_pos h0]
      rw [Sem.run_bind, Sem.run_pure, Result.andThen_ok, e1, e2]
      rfl
    · rw [Sem.run_ite, if_neg h0]
      rw [Sem.run_bind, run_zero w hz1, Result.andThen_ok, Sem.run_bind, Sem.run_pure, Result.andThen_ok, e1, e2]
      rfl
  refine Gives.of_run hrun ?_
  have hp := newSlice_ok (e := e) (e' := e) (c := cells.toList) (us := r'.toList) (rest := []) (n := n) (k := n) (z := z) (s := s4) hR h4 (hf _ (Nat.le_refl _) (by dsimp only; omega)) hv (Nat.le_refl _) (by simp [hrsz])
  simpa using hp

theorem bound_inv {d m j : Nat} {x : Option Operand} (h : bound? d m (x.map ρ) = some j) (hρ : ∀ x, VR ω μ (ρ x) (ρ' x)) :
    j ≤ m ∧ ((x = none ∧ j = d) ∨ ∃ y k, x = some y ∧ ρ' y = .int k j) := by
  unfold bound? at h
  cases x with
  | none =>
    have h' : (bif Nat.ble d m then some d else none) = some j := h
    cases hb : Nat.ble d m with
    | false => rw [hb] at h'; cases h'
    | true => rw [hb] at h'; cases h'; exact ⟨Nat.le_of_ble_eq_true hb, .inl ⟨rfl, rfl⟩⟩
  | some y =>
    simp only [Option.map_some] at h
    have hy := hρ y
    split at h
    · rename_i k i hr
      cases hb : Nat.ble i m with
      | false => rw [hb] at h; cases h
      | true =>
        rw [hb] at h; cases h
        rw [hr] at hy
        exact ⟨Nat.le_of_ble_eq_true hb, .inr ⟨y, k, rfl, VR.flat rfl hy⟩⟩
    · cases h
theorem run_bounds {isS : Bool} {len cap h l : Nat} {lo hi : Option Operand} (hh : h ≤ cap) (hl : l ≤ h) (hhi : (hi = none ∧ h = len) ∨ ∃ y k, hi = some y ∧ ρ' y = .int k h) (hlo : (lo = none ∧ l = 0) ∨ ∃ y k, lo = some y ∧ ρ' y = .int k l) :
    (Instr.sliceBounds isS len cap (lo.map ρ') (hi.map ρ') none).run P w = .ok (l, h, cap) w := by
  have hb : ∀ (x y : Nat) (v : Value) (k : IntKind) (c : BoundsCode), v = .int k x → x ≤ y → (Instr.sliceBound v y c).run P w = .ok x w := by
    intro x y v k c hv hxy
    subst hv
    simp [Instr.sliceBound, asIntOf, hxy]
  unfold Instr.sliceBounds
  rcases hhi with ⟨rfl, rfl⟩ | ⟨y, k, rfl, hy⟩ <;> rcases hlo with ⟨rfl, rfl⟩ | ⟨z, j, rfl, hz⟩
  · simp
  · simp [hb l h _ j _ hz hl]
  · simp [hb h cap _ k _ hy hh]
  · simp [hb h cap _ k _ hy hh, hb l h _ j _ hz hl]
theorem run_bounds3 {isS : Bool} {len cap c h l : Nat} {lo hi mx : Option Operand} (hc : c ≤ cap) (hh : h ≤ c) (hl : l ≤ h) (hmx : (mx = none ∧ c = len) ∨ ∃ y k, mx = some y ∧ ρ' y = .int k c) (hhi : (hi = none ∧ h = len) ∨ ∃ y k, hi = some y ∧ ρ' y = .int k h)
    (hlo : (lo = none ∧ l = 0) ∨ ∃ y k, lo = some y ∧ ρ' y = .int k l) (h1 : mx.isSome = true := by rfl) (h2 : hi.isSome = true := by rfl) :
    (Instr.sliceBounds isS len cap (lo.map ρ') (hi.map ρ') (mx.map ρ')).run P w = .ok (l, h, c) w := by
  have hb : ∀ (x y : Nat) (v : Value) (k : IntKind) (c : BoundsCode), v = .int k x → x ≤ y → (Instr.sliceBound v y c).run P w = .ok x w := by
    intro x y v k c hv hxy
    subst hv
    simp [Instr.sliceBound, asIntOf, hxy]
  unfold Instr.sliceBounds
  rcases hmx with ⟨rfl, _⟩ | ⟨ym, km, rfl, hym⟩
  · cases h1
  rcases hhi with ⟨rfl, _⟩ | ⟨y, k, rfl, hy⟩
  · cases h2
  rcases hlo with ⟨rfl, rfl⟩ | ⟨z, j, rfl, hz⟩
  · simp [hb c cap _ km _ hym hc, hb h c _ k _ hy hh]
  · simp [hb c cap _ km _ hym hc, hb h c _ k _ hy hh, hb l h _ j _ hz hl]
theorem armSlice_ok {t : TypeId} {x : Operand} {lo hi mx : Option Operand} {v : Value} (h : armSlice t x lo hi mx P call ρ s = some (v, s')) (hρ : ∀ x, VR ω μ (ρ x) (ρ' x)) (hR : Rel ω B W0 μ s.heap w) :
    Gives P (Instr.sliceAt t (ρ' x) (lo.map ρ') (hi.map ρ') (mx.map ρ')) w (Post ω B W0 μ s s' v) := by
  unfold armSlice at h
  cases mx with
  | some m =>
    dsimp only at h
    obtain ⟨d, s1, h1, h2⟩ := bind_inv h
    obtain ⟨hu, rfl⟩ := opt_inv h1
    have hx := hρ x
    obtain ⟨mm, hmm, hh⟩ := app h2
    clear h2
    split at hmm <;> subst hmm
    case h_2 => cases hh
    rename_i e base n k hrx
    obtain ⟨z, s8, h10, h11⟩ := bind_inv hh
    obtain ⟨hz, rfl⟩ := opt_inv h10
    obtain ⟨cb, s2, h3, h4⟩ := bind_inv h11
    obtain ⟨hcb, rfl⟩ := opt_inv h3
    obtain ⟨hb, s3, h5, h6⟩ := bind_inv h4
    obtain ⟨hhb0, rfl⟩ := opt_inv h5
    obtain ⟨lb, s4, h7, h8⟩ := bind_inv h6
    obtain ⟨hlb, rfl⟩ := opt_inv h7
    cases hi with
    | none => cases hhb0
    | some hi =>
    have hhb : bound? n cb ((some hi).map ρ) = some hb := hhb0
    obtain ⟨c1, c2⟩ := bound_inv (x := some m) hcb hρ
    obtain ⟨b1, b2⟩ := bound_inv (x := some hi) hhb hρ
    obtain ⟨b3, b4⟩ := bound_inv hlb hρ
    rw [hrx] at hx
    generalize ρ' x = u at hx ⊢
    have hrun : ∀ (a : Option Addr) (k' : Nat), n ≤ k' → (Instr.sliceAt t (.slice a n k') (lo.map ρ') ((some hi).map ρ') ((some m).map ρ')).run P w = .ok (.slice (if cb = lb then a else a.map (·.add (lb * z))) (hb - lb) (cb - lb)) w := by
      intro a k' hk'
      simp only [Instr.sliceAt, Sem.run_bind, run_und w hu, Result.andThen_ok, Instr.slice]
      rw [run_bounds3 (show cb ≤ k' by omega) b1 b3 c2 b2 b4]
      simp [run_size w hz]
    cases base with
    | none =>
      dsimp only at h8
      obtain ⟨rfl, rfl⟩ := pure_inv h8
      cases hx with
      | sliceNil =>
        refine Gives.of_run (hrun none 0 (by omega)) (Post.same hR ?_)
        have h0 : hb - lb = 0 := by omega
        have h1 : cb - lb = 0 := by omega
        rw [h0, h1]
        simp
        exact .sliceNil
    | some ad =>
      obtain ⟨y, o, sp⟩ := ad
      cases sp with
      | some q => cases h8
      | none =>
        dsimp only at h8
        rcases cond_inv h8 with ⟨hlc, h9⟩ | ⟨hlc, h9⟩
        · have hlc := Nat.eq_of_beq_eq_true hlc
          obtain ⟨rfl, rfl⟩ := pure_inv h9
          have h0 : hb - lb = 0 := by omega
          have h1 : cb - lb = 0 := by omega
          cases hx with
          | slice _ _ _ _ k' l hl hk hr =>
            refine Gives.of_run (hrun _ k' hk) (Post.same hR ?_)
            rw [h0, h1, if_pos hlc.symm]
            exact .sliceZero _ _ _ _ _
          | sliceEmpty _ _ _ a =>
            refine Gives.of_run (hrun _ 0 (by omega)) (Post.same hR ?_)
            rw [h0, h1, if_pos hlc.symm]
            exact .sliceZero _ _ _ _ _
        · have hlc : lb ≠ cb := fun e => by rw [e, Nat.beq_refl] at hlc; cases hlc
          obtain ⟨hzk, h10⟩ := guard_inv' h9
          have hzk := Nat.eq_of_beq_eq_true hzk
          subst hzk
          obtain ⟨rfl, rfl⟩ := pure_inv h10
          cases hx with
          | slice _ _ _ _ k' l hl hk hr =>
            refine Gives.of_run (hrun _ k' hk) (Post.same hR ?_)
            rw [if_neg (fun e => hlc e.symm)]
            simp only [Option.map_some, addr_add]
            have := VR.slice (ω := ω) y (o + lb * z) (hb - lb) z (cb - lb) l hl (by omega) (by
              have h1 : lb * z + (cb - lb) * z = cb * z := by rw [← Nat.add_mul]; congr 1; omega
              have h2 : cb * z ≤ k' * z := Nat.mul_le_mul_right _ (by omega)
              omega)
            rwa [← Nat.add_assoc] at this
          | sliceEmpty _ _ _ a => exfalso; omega
  | none =>
  dsimp only at h
  obtain ⟨d, s1, h1, h2⟩ := bind_inv h
  obtain ⟨hu, rfl⟩ := opt_inv h1
  have hx := hρ x
  obtain ⟨m, hm, hh⟩ := app h2
  clear h2
  split at hm <;> subst hm
  · -- a string
    rename_i st hrx
    obtain ⟨hb, s2, h3, h4⟩ := bind_inv hh
    obtain ⟨hhb, rfl⟩ := opt_inv h3
    obtain ⟨lb, s3, h5, h6⟩ := bind_inv h4
    obtain ⟨hlb, rfl⟩ := opt_inv h5
    obtain ⟨rfl, rfl⟩ := pure_inv h6
    obtain ⟨b1, b2⟩ := bound_inv hhb hρ
    obtain ⟨b3, b4⟩ := bound_inv hlb hρ
    rw [hrx] at hx
    rw [VR.flat rfl hx]
    refine Gives.of_run (a := .string (st.extract lb hb)) (w' := w) ?_ (Post.same hR (.string _))
    simp only [Instr.sliceAt, Sem.run_bind, run_und w hu, Result.andThen_ok, Instr.slice, Option.map_none, Option.isSome_none, Bool.false_eq_true, if_false, Sem.run_pure]
    rw [run_bounds b1 b3 b2 b4]
    rfl
  · rename_i e base n k hrx
    obtain ⟨hb, s2, h3, h4⟩ := bind_inv hh
    obtain ⟨hhb, rfl⟩ := opt_inv h3
    obtain ⟨lb, s3, h5, h6⟩ := bind_inv h4
    obtain ⟨hlb, rfl⟩ := opt_inv h5
    obtain ⟨z, s4, h7, h8⟩ := bind_inv h6
    obtain ⟨hz, rfl⟩ := opt_inv h7
    obtain ⟨b1, b2⟩ := bound_inv hhb hρ
    obtain ⟨b3, b4⟩ := bound_inv hlb hρ
    rw [hrx] at hx
    generalize ρ' x = u at hx ⊢
    have hrun : ∀ (a : Option Addr) (k' : Nat), n ≤ k' → (Instr.sliceAt t (.slice a n k') (lo.map ρ') (hi.map ρ') none).run P w = .ok (.slice (if k' = lb then a else a.map (·.add (lb * z))) (hb - lb) (k' - lb)) w := by
      intro a k' hk'
      simp only [Instr.sliceAt, Sem.run_bind, run_und w hu, Result.andThen_ok, Instr.slice]
      rw [run_bounds (show hb ≤ k' by omega) b3 b2 b4]
      simp [run_size w hz]
    cases base with
    | none =>
      dsimp only at h8
      obtain ⟨rfl, rfl⟩ := pure_inv h8
      cases hx with
      | sliceNil =>
        refine Gives.of_run (hrun none 0 (by omega)) (Post.same hR ?_)
        have h0 : hb - lb = 0 := by omega
        have h1 : 0 - lb = 0 := by omega
        rw [h0, h1]
        simp
        exact .sliceNil
    | some ad =>
      obtain ⟨y, o, sp⟩ := ad
      cases sp with
      | some q => cases h8
      | none =>
        dsimp only at h8
        obtain ⟨hzk, h9⟩ := guard_inv' h8
        have hzk := Nat.eq_of_beq_eq_true hzk
        subst hzk
        obtain ⟨rfl, rfl⟩ := pure_inv h9
        cases hx with
        | slice _ _ _ _ k' l hl hk hr =>
          refine Gives.of_run (hrun _ k' hk) (Post.same hR ?_)
          by_cases hkl : k' = lb
          · rw [if_pos hkl]
            have h0 : hb - lb = 0 := by omega
            have h1 : k' - lb = 0 := by omega
            rw [h0, h1]
            exact .sliceEmpty _ _ _ _
          · rw [if_neg hkl]
            simp only [Option.map_some, addr_add]
            have := VR.slice (ω := ω) y (o + lb * z) (hb - lb) z (k' - lb) l hl (by omega) (by
              have : lb * z + (k' - lb) * z = k' * z := by rw [← Nat.add_mul]; congr 1; omega
              omega)
            rwa [← Nat.add_assoc] at this
        | sliceEmpty _ _ _ a =>
          refine Gives.of_run (hrun _ 0 (by omega)) (Post.same hR ?_)
          have h0 : hb - lb = 0 := by omega
          have h1 : 0 - lb = 0 := by omega
          have h2 : lb = 0 := by omega
          rw [h0, h1, if_pos h2.symm]
          exact .sliceEmpty _ _ _ _
  · rename_i n e hv
    obtain ⟨⟨y, o⟩, s2, h3, h4⟩ := bind_inv hh
    obtain ⟨hp, rfl⟩ := opt_inv h3
    obtain ⟨hb, s3, h5, h6⟩ := bind_inv h4
    obtain ⟨hhb, rfl⟩ := opt_inv h5
    obtain ⟨lb, s4, h7, h8⟩ := bind_inv h6
    obtain ⟨hlb, rfl⟩ := opt_inv h7
    obtain ⟨z, s5, h9, h10⟩ := bind_inv h8
    obtain ⟨hz, rfl⟩ := opt_inv h9
    obtain ⟨⟨c, ce⟩, s6, h12, h13⟩ := bind_inv h10
    obtain ⟨rfl, hmk, hg⟩ := rdCells_inv h12
    dsimp only at h13 hg
    obtain ⟨hbn', h11⟩ := guard_inv' h13
    simp only [Bool.and_eq_true] at hbn'
    have hbn := Nat.eq_of_beq_eq_true hbn'.1
    have hcl := Nat.le_of_ble_eq_true hbn'.2
    subst hbn
    obtain ⟨rfl, rfl⟩ := pure_inv h11
    obtain ⟨l0, hl0, ho⟩ := hR.cells hg
    obtain ⟨b1, b2⟩ := bound_inv hhb hρ
    obtain ⟨b3, b4⟩ := bound_inv hlb hρ
    rw [place_inv hp] at hx
    generalize ρ' x = u at hx ⊢
    cases hx with
    | ptr _ _ l hl =>
      have hrun : (Instr.sliceAt t (.pointer (some ⟨l.blk, l.off + o, none⟩)) (lo.map ρ') (hi.map ρ') none).run P w = .ok (.slice (some (if hb = lb then ⟨l.blk, l.off + o, none⟩ else ⟨l.blk, l.off + o + lb * z, none⟩)) (hb - lb) (hb - lb)) w := by
        simp only [Instr.sliceAt, Sem.run_bind, run_und w hu, Result.andThen_ok, Instr.sureAddr, Sem.run_pure]
        rw [run_bounds b1 b3 b2 b4]
        simp [run_size w hz, addr_add]
      refine Gives.of_run hrun (Post.same hR ?_)
      by_cases hbl : hb = lb
      · rw [if_pos hbl]
        have h0 : hb - lb = 0 := by omega
        rw [h0]
        exact .sliceEmpty _ _ _ _
      · rw [if_neg hbl]
        have e0 : l0 = l := by rw [hl] at hl0; cases hl0; rfl
        rw [e0] at ho
        have hroom := ho.2.1
        have := VR.slice (ω := ω) y (o + lb * z) (hb - lb) z (hb - lb) l hl (Nat.le_refl _) (by
          have : lb * z + (hb - lb) * z = hb * z := by rw [← Nat.add_mul]; congr 1; omega
          omega)
        rwa [← Nat.add_assoc] at this
  · cases hh
end ops
end Go.Ev



namespace Go.Ev
open Go Go.RowKit
section ops
variable {P : Program} {ω : Nat → Value} {B : Nat} {W0 : World} {μ : Mp} {w : World} {s s' : St} {call : FuncId → List Value → E Value} {ρ ρ' : Operand → Value}

theorem freeze_block (w : World) (a : Addr) (n b : Nat) (h : b ≠ a.block) : (w.freeze a n).heap[b]? = w.heap[b]? := by
  unfold World.freeze
  split
  · rfl
  · simp only [Array.getElem?_modify]; rw [if_neg (fun e => h e.symm)]
theorem freeze_cell (w : World) (a : Addr) (n : Nat) (p : Addr) : (w.freeze a n).cell? p = w.cell? p := by
  unfold World.freeze
  split
  · rfl
  · simp only [World.cell?, Array.getElem?_modify]
    by_cases hb : a.block = p.block
    · rw [if_pos hb]
      cases hh : w.heap[p.block]? with
      | none => rfl
      | some o => cases o <;> rfl
    · rw [if_neg hb]
theorem freeze_size (w : World) (a : Addr) (n : Nat) : (w.freeze a n).heap.size = w.heap.size := by
  unfold World.freeze; split <;> simp
theorem Row.freeze {b n : Nat} (h : Row w b n) : Row (w.freeze ⟨b, n, none⟩ 1) b n := by
  obtain ⟨C, e, lo, hi, hb, hs, hf⟩ := h
  have hh : (w.freeze ⟨b, n, none⟩ 1).heap[b]? = Option.some (.cells C e (if lo == hi then (n, n + 1) else (min lo n, max hi (n + 1)))) := by
    unfold World.freeze
    rw [if_neg (by omega)]
    simp only [Array.getElem?_modify, if_true, hb, Option.map_some]
  by_cases hl : lo = hi
  · have : (lo == hi) = true := by simpa using hl
    rw [this] at hh
    exact ⟨C, e, n, n + 1, hh, hs, .inr (Nat.le_refl _)⟩
  · have : (lo == hi) = false := by simpa using hl
    rw [this] at hh
    exact ⟨C, e, min lo n, max hi (n + 1), hh, hs, .inr (by omega)⟩
theorem Rel.mark {H : T AObj} (hR : Rel ω B W0 μ H w) {y : Nat} {c : List Value} {e : TypeId} {l : Loc} (h4 : 4096 ≤ y) (hg : H.get y = some (.cells c e)) (hl : μ y = some l) :
    Rel ω B W0 μ H (w.freeze ⟨l.blk, l.off + l.room, none⟩ 1) := by
  obtain ⟨l0, hl0, ho⟩ := hR.obj y _ hg (by simp)
  have e0 : l0 = l := by rw [hl] at hl0; cases hl0; rfl
  subst e0
  have hos : (w.freeze ⟨l0.blk, l0.off + l0.room, none⟩ 1).os = w.os := by unfold World.freeze; split <;> rfl
  have htp : (w.freeze ⟨l0.blk, l0.off + l0.room, none⟩ 1).tape = w.tape := by unfold World.freeze; split <;> rfl
  have hou : (w.freeze ⟨l0.blk, l0.off + l0.room, none⟩ 1).output = w.output := by unfold World.freeze; split <;> rfl
  have := hR.turn (w' := w.freeze ⟨l0.blk, l0.off + l0.room, none⟩ 1) (o' := .cells c e) h4 hg (by simp) hl hos htp hou (by rw [freeze_size]; exact Nat.le_refl _)
    (fun b _ hb => freeze_block _ _ _ _ hb) (fun _ => ⟨ho.1.freeze, ho.2.1, fun i v hv => by rw [freeze_cell]; exact ho.2.2 i v hv⟩)
  exact this.congr fun x o hx _ => by
    by_cases hxy : x = y
    · rw [hxy, T.get_set_self, ← hg, ← hxy]; exact hx
    · rw [T.get_set_ne _ _ hxy]; exact hx
theorem run_mark {b n : Nat} (h : Row w b n) (o : Nat) : (markStringish ⟨b, o, none⟩).run P w = .ok () (w.freeze ⟨b, n, none⟩ 1) := by
  obtain ⟨e, he⟩ := h.shape
  unfold markStringish
  rw [Sem.run_bind, run_shape, Result.andThen_ok]
  dsimp only
  rw [he]
  rfl
theorem isByte_inv {e : TypeId} (h : isByte P e = true) : P.underlying e = some (.int .u8) := by
  unfold isByte at h
  split at h
  · assumption
  · cases h
theorem bytes_run : ∀ {c us : List Value} {b : List UInt8}, bytesOf? c = some b → VRs ω μ c us → us = c ∧ ∀ (acc : ByteArray),
    (forIn (m := Sem) us acc fun c r => match c with
      | .int .u8 n => pure (ForInStep.yield (r.push (UInt8.ofNat n.toNat)))
      | _ => do
        stuck "bytesToString: byte expected"
        pure (ForInStep.yield r)).run P w = .ok ⟨acc.data ++ b.toArray⟩ w := by
  intro c
  induction c with
  | nil =>
    intro us b h hs
    have : us = [] := List.length_eq_zero_iff.1 hs.1.symm
    subst this
    simp only [bytesOf?, Option.some.injEq] at h
    subst h
    exact ⟨rfl, fun acc => by simp⟩
  | cons v c ih =>
    intro us b h hs
    cases us with
    | nil => have := hs.1; simp at this
    | cons u us =>
      have hv : VR ω μ v u := hs.2 0 v u rfl rfl
      have hr : VRs ω μ c us := ⟨by have := hs.1; simpa using this, fun i a b e e' => hs.2 (i + 1) a b (by simpa using e) (by simpa using e')⟩
      unfold bytesOf? at h
      split at h
      · rename_i n
        have hu := VR.flat (v := .int .u8 n) rfl hv
        subst hu
        cases hb : bytesOf? c with
        | none => rw [hb] at h; cases h
        | some b' =>
          rw [hb] at h
          cases h
          obtain ⟨e1, e2⟩ := ih hb hr
          refine ⟨by rw [e1], fun acc => ?_⟩
          rw [List.forIn_cons, Sem.run_bind]
          dsimp only
          rw [Sem.run_pure, Result.andThen_ok]
          dsimp only
          rw [e2]
          congr 1
          simp [ByteArray.push]
      · cases h
theorem armConvert_ok {a d : TypeId} {x : Operand} {v : Value} (h : armConvert a d x P call ρ s = some (v, s')) (hρ : ∀ x, VR ω μ (ρ x) (ρ' x)) (hR : Rel ω B W0 μ s.heap w) (h4 : 4096 ≤ s.next) (hf : Fresh μ s.next s'.next) :
    Gives P (convert a d (ρ' x)) w (Post ω B W0 μ s s' v) := by
  unfold armConvert at h
  have hx := hρ x
  obtain ⟨m, hm, hh⟩ := app h
  clear h
  split at hm <;> subst hm
  · rename_i base n k hrx
    obtain ⟨us, s1, h1, h2⟩ := bind_inv hh
    obtain ⟨hus, rfl⟩ := opt_inv h1
    obtain ⟨ud, s2, h3, h5⟩ := bind_inv h2
    obtain ⟨hud, rfl⟩ := opt_inv h3
    rw [hrx] at hx
    generalize ρ' x = u at hx ⊢
    obtain ⟨m, hm, hh⟩ := app h5
    clear h5
    split at hm <;> subst hm
    · rename_i e
      obtain ⟨hb, h6⟩ := guard_inv hh
      have hby := isByte_inv (show isByte P e = true by simpa using hb)
      have hconv : ∀ x : Value, (∃ a n k, x = .slice a n k) → (convert a d x).run P w = (Conv.bytesToString x).run P w := by
        rintro _ ⟨b, n, k, rfl⟩
        unfold convert
        rw [Sem.run_bind, run_und w hus, Result.andThen_ok, Sem.run_bind, run_und w hud, Result.andThen_ok]
        dsimp only
        rw [Sem.run_bind, run_und w hby, Result.andThen_ok]
      rcases cond_inv h6 with ⟨hn, h7⟩ | ⟨hn, h7⟩
      · have hn := Nat.eq_of_beq_eq_true hn
        subst hn
        obtain ⟨rfl, rfl⟩ := pure_inv h7
        refine Gives.of_run (a := .string ⟨#[]⟩) (w' := w) ?_ (Post.same hR (.string _))
        cases hx with
        | sliceNil => rw [hconv _ ⟨_, _, _, rfl⟩]; rfl
        | slice => rw [hconv _ ⟨_, _, _, rfl⟩]; rfl
        | sliceEmpty => rw [hconv _ ⟨_, _, _, rfl⟩]; rfl
        | sliceZero => rw [hconv _ ⟨_, _, _, rfl⟩]; rfl
      · cases base with
        | none => cases h7
        | some ad =>
          obtain ⟨y, off, sp⟩ := ad
          cases sp with
          | some q => cases h7
          | none =>
            dsimp only at h7
            obtain ⟨⟨c, ce⟩, s3, h8, h9⟩ := bind_inv h7
            obtain ⟨rfl, hmk, hg⟩ := rdCells_inv h8
            dsimp only at h9 hg
            obtain ⟨b, s4, h10, h11⟩ := bind_inv h9
            obtain ⟨htk, rfl⟩ := opt_inv h10
            obtain ⟨bs, s5, h12, h13⟩ := bind_inv h11
            obtain ⟨hbs, rfl⟩ := opt_inv h12
            obtain ⟨rfl, rfl⟩ := pure_inv h13
            obtain ⟨htl, rfl⟩ := take_some htk
            obtain ⟨l0, hl0, ho⟩ := hR.cells hg
            refine Gives.of_run (a := .string ⟨bs.toArray⟩) (w' := w) ?_ (Post.same hR (.string _))
            cases hx with
            | slice _ _ _ _ k' l hl hk hr =>
              have e0 : l0 = l := by rw [hl] at hl0; cases hl0; rfl
              subst e0
              obtain ⟨us', hv, hcell⟩ := ho.piece htl
              obtain ⟨e1, e2⟩ := bytes_run (P := P) (w := w) hbs hv
              have hlen : us'.length = n := by rw [← hv.1]; simp; omega
              have hload : (loadCells ⟨l0.blk, l0.off + off, none⟩ us'.length).run P w = .ok us'.toArray w :=
                run_loadCells_list (P := P) w ⟨l0.blk, l0.off + off, none⟩ us' (fun j v hv => by rw [Addr.add_mid]; exact hcell j v hv)
              rw [hlen] at hload
              rw [hconv _ ⟨_, _, _, rfl⟩]
              unfold Conv.bytesToString
              dsimp only
              rw [Sem.run_bind, hload, Result.andThen_ok]
              rw [Sem.run_bind]
              have := e2 ByteArray.empty
              rw [List.forIn_toArray]
              refine (congrArg (fun r => Result.andThen r fun a w' => Sem.run P (pure (Value.string a)) w') this).trans ?_
              simp
            | sliceEmpty => simp at hn
    · rename_i e e'
      obtain ⟨hb, h6⟩ := guard_inv hh
      simp only [Bool.or_eq_false_iff, Bool.not_eq_false', Bool.and_eq_true] at hb
      obtain ⟨hb, hn0⟩ := hb
      have had := Nat.eq_of_beq_eq_true hb.1
      have hby := isByte_inv hb.2
      subst had
      cases base with
      | none => cases h6
      | some ad =>
        obtain ⟨y, off, sp⟩ := ad
        cases sp with
        | some q => cases h6
        | none =>
          dsimp only at h6
          obtain ⟨⟨c, ce⟩, s3, h8, h9⟩ := bind_inv h6
          obtain ⟨rfl, hmk, hg⟩ := rdCells_inv h8
          obtain ⟨h10, h11⟩ := guard_inv h9
          obtain ⟨rfl, rfl⟩ := pure_inv h11
          have hy : 4096 ≤ y := by
            rw [ble_dec] at h10
            have := of_decide_eq_false h10
            omega
          obtain ⟨l0, hl0, ho⟩ := hR.cells hg
          have hconv : ∀ (aa : Addr) (n k : Nat), (convert a a (.slice (some aa) n k)).run P w = ((do markStringish aa; pure (.slice (some aa) n k) : Sem Value)).run P w := by
            intro aa n k
            unfold convert
            rw [Sem.run_bind, run_und w hus, Result.andThen_ok, Sem.run_bind, run_und w hud, Result.andThen_ok]
            dsimp only
            rw [Sem.run_bind, run_und w hby, Result.andThen_ok]
            simp
          cases hx with
          | slice _ _ _ _ k' l hl hk hr =>
            have e0 : l0 = l := by rw [hl] at hl0; cases hl0; rfl
            subst e0
            refine ⟨.slice (some ⟨l0.blk, l0.off + off, none⟩) n k', w.freeze ⟨l0.blk, l0.off + l0.room, none⟩ 1, ?_, μ, Ext.refl _ _ _, hR.mark hy hg hl, .slice y off n k k' l0 hl hk hr⟩
            rw [hconv, Sem.run_bind, run_mark ho.1]
            rfl
          | sliceEmpty => simp at hn0
    · cases hh
  · rename_i b hrx
    rw [hrx] at hx
    rw [VR.flat rfl hx]
    obtain ⟨us, s1, h1, h2⟩ := bind_inv hh
    obtain ⟨hus, rfl⟩ := opt_inv h1
    obtain ⟨ud, s2, h3, h5⟩ := bind_inv h2
    obtain ⟨hud, rfl⟩ := opt_inv h3
    clear hh
    obtain ⟨m, hm, hh⟩ := app h5
    clear h5
    split at hm <;> subst hm
    · rename_i e
      obtain ⟨hb, h6⟩ := guard_inv hh
      have hby := isByte_inv (show isByte P e = true by simpa using hb)
      obtain ⟨y, s3, h7, h8⟩ := bind_inv h6
      obtain ⟨rfl, rfl⟩ := nw_inv h7
      obtain ⟨rfl, rfl⟩ := pure_inv h8
      rename_i s0
      -- the capacity that is drawn
      have hcap : ∀ w : World, ∃ cap, b.size ≤ cap ∧ (choose (.appendCap b.size 0 e)).run P w = .ok cap { w with drawn := w.drawn + 1 } := by
        intro w
        refine ⟨_, ?_, by rw [run_choose, if_neg (by simp [Question.forced])]⟩
        simp [Question.cut]
      obtain ⟨cap, hcap1, hcap2⟩ := hcap w
      have hfl : (b.data.toList.map fun (b : UInt8) => Value.int .u8 b.toNat).all flat = true := by
        rw [List.all_eq_true]; intro v hv
        obtain ⟨x, _, rfl⟩ := List.mem_map.1 hv
        rfl
      have hlen : (b.data.toList.map fun (b : UInt8) => Value.int .u8 b.toNat).length = b.size := by rw [List.length_map, Array.length_toList]; rfl
      obtain ⟨μ', he, hr, hm⟩ := nw_ok (R := .cells ((b.data.toList.map fun (b : UInt8) => Value.int .u8 b.toNat) ++ List.replicate (cap - b.size) (Value.int .u8 0)).toArray e)
        (room := (b.data.toList.map fun (b : UInt8) => Value.int .u8 b.toNat).length + (List.replicate (cap - b.size) (Value.int .u8 0)).length) (o := .cells (b.data.toList.map fun (b : UInt8) => Value.int .u8 b.toNat) e)
        (hR.drawn (w.drawn + 1)) h4 (hf _ (Nat.le_refl _) (by dsimp only; omega)) (fun μ' hx => ObjR.newCells (VRs.refl_flat hfl) rfl)
      have hrow := (hr.obj _ _ (T.get_set_self _ _ _) (by simp))
      obtain ⟨l0, hl0, ho⟩ := hrow
      have hmk := hr.mark h4 (T.get_set_self _ _ _) hm
      have e0 := hm
      rw [hl0] at e0
      cases e0
      generalize hW : World.freeze _ _ _ = W' at hmk
      refine ⟨.slice (some ⟨w.heap.size, 0, none⟩) b.size cap, W', ?_, μ', he, hmk, ?_⟩
      · unfold convert
        rw [Sem.run_bind, run_und w hus, Result.andThen_ok, Sem.run_bind, run_und w hud, Result.andThen_ok]
        have hgo : ((do match ← underlying e with
            | .int .u8 => Conv.stringToBytes e b
            | .int .i32 => Conv.stringToRunes e b
            | _ => stuck "Convert: string to a slice of what?" : Sem Value)).run P w = .ok (.slice (some ⟨w.heap.size, 0, none⟩) b.size cap) W' := by
          rw [Sem.run_bind, run_und w hby, Result.andThen_ok]
          dsimp only
          unfold Conv.stringToBytes
          rw [Sem.run_bind, hcap2, Result.andThen_ok]
          have hrows : (b.data.map (fun (x : UInt8) => Value.int .u8 x.toNat) ++ Array.replicate (cap - b.size) (Value.int .u8 0)) = ((b.data.toList.map fun (b : UInt8) => Value.int .u8 b.toNat) ++ List.replicate (cap - b.size) (Value.int .u8 0)).toArray := by
            apply Array.toList_inj.1
            simp
          dsimp only
          rw [hrows]
          rw [show ∀ (f : Addr → Sem Value) (cs : Array Value) (w : World), ((newRow e cs) >>= f).run P w = (f ⟨w.heap.size, 0, none⟩).run P (w.alloc (.cells cs e)) from fun f cs w => rfl]
          have hro := ho.1
          rw [Sem.run_bind, run_mark hro, ← hW]
          rfl
        cases us <;> exact hgo
      · have := VR.slice (ω := ω) s2.next 0 b.size 1 cap _ hm hcap1 (by dsimp only; rw [hlen, List.length_replicate]; omega)
        simpa using this
    · obtain ⟨hv1, hv2, rfl⟩ := pureVal_inv hh
      exact pure_post hR (evalPure_run hv1 w) hv2
  · rename_i k n hrx
    rw [hrx] at hx
    rw [VR.flat rfl hx]
    obtain ⟨h1, h2, rfl⟩ := pureVal_inv hh
    exact pure_post hR (evalPure_run h1 w) h2
  · cases hh
end ops
end Go.Ev



namespace Go.Ev
open Go Go.RowKit
/-- Entries of a map, and those for which they stand. -/
def ERs (ω : Nat → Value) (μ : Mp) (a b : List MapEntry) : Prop := a.length = b.length ∧ ∀ (i : Nat) (e e' : MapEntry), a[i]? = some e → b[i]? = some e' → e.key = e'.key ∧ e.born = e'.born ∧ VR ω μ e.val e'.val
section ops
variable {P : Program} {ω : Nat → Value} {B : Nat} {W0 : World} {μ : Mp} {w : World} {s s' : St} {call : FuncId → List Value → E Value} {ρ ρ' : Operand → Value}
theorem ERs.tail {e e' : MapEntry} {a b : List MapEntry} (h : ERs ω μ (e :: a) (e' :: b)) : (e.key = e'.key ∧ e.born = e'.born ∧ VR ω μ e.val e'.val) ∧ ERs ω μ a b :=
  ⟨h.2 0 e e' rfl rfl, by have := h.1; simpa using this, fun i x y ex ey => h.2 (i + 1) x y (by simpa using ex) (by simpa using ey)⟩
theorem findNow_ok {kind : TypeDesc} {k : Value} : ∀ {a b : List MapEntry} {i : Nat} {r : Option (Nat × Value)}, ERs ω μ a b → Instr.findNow kind k a i = some r →
    ∃ r', Instr.findNow kind k b i = some r' ∧ (match r, r' with
      | none, none => True
      | some (j, v), some (j', v') => j = j' ∧ VR ω μ v v' ∧ i ≤ j ∧ j < i + a.length
      | _, _ => False) := by
  intro a
  induction a with
  | nil =>
    intro b i r hs h
    have : b = [] := List.length_eq_zero_iff.1 hs.1.symm
    subst this
    simp only [Instr.findNow, Option.some.injEq] at h
    subst h
    exact ⟨none, rfl, trivial⟩
  | cons e a ih =>
    intro b i r hs h
    cases b with
    | nil => have := hs.1; simp at this
    | cons e' b =>
      obtain ⟨⟨h1, h2, h3⟩, h4⟩ := hs.tail
      simp only [Instr.findNow] at h ⊢
      rw [← h1]
      cases hn : Instr.sameNow kind k e.key with
      | none => rw [hn] at h; cases h
      | some t =>
        rw [hn] at h
        cases t with
        | true =>
          simp only [Option.some.injEq] at h
          subst h
          exact ⟨_, rfl, rfl, h3, Nat.le_refl _, by simp⟩
        | false =>
          obtain ⟨r', hr, hm⟩ := ih h4 h
          refine ⟨r', hr, ?_⟩
          cases r <;> cases r' <;> first | exact hm | skip
          obtain ⟨m1, m2, m3, m4⟩ := hm
          exact ⟨m1, m2, by omega, by simp; omega⟩
theorem mapTypes_inv {t : TypeId} {kind : TypeDesc} {e : TypeId} (h : mapTypes? P t = some (kind, e)) : ∃ key, P.underlying t = some (.map key e) ∧ P.underlying key = some kind ∧ keyKind kind = true := by
  unfold mapTypes? at h
  split at h
  · rename_i key e' hu
    cases hk : P.underlying key with
    | none => rw [hk] at h; cases h
    | some d =>
      rw [hk] at h
      have h' : (bif keyKind d then some (d, e') else none) = some (kind, e) := h
      cases hb : keyKind d with
      | false => rw [hb] at h'; cases h'
      | true => rw [hb] at h'; cases h'; exact ⟨key, hu, hk, hb⟩
  · cases h
theorem checkKey_run {key : TypeId} {kind : TypeDesc} {k : Value} (b : Bool) (hu : P.underlying key = some kind) (hk : keyKind kind = true) (hv : keyVal k = true) : (Instr.checkKey b 10000 key k).run P w = .ok () w := by
  rw [show (10000 : Nat) = 9999 + 1 from rfl, Instr.checkKey]
  rw [Sem.run_bind, run_und w hu, Result.andThen_ok]
  cases kind <;> cases k <;> first | rfl | (simp [keyKind] at hk; done) | (simp [keyVal] at hv; done)
theorem findKey_run {key : TypeId} {kind : TypeDesc} {k : Value} {es : List MapEntry} {r : Option (Nat × Value)} (hu : P.underlying key = some kind) (h : Instr.findNow kind k es 0 = some r) : (Instr.findKey key k es).run P w = .ok r w := by
  unfold Instr.findKey
  rw [Sem.run_bind, run_und w hu, Result.andThen_ok, h]
  rfl
theorem found_inv {kind : TypeDesc} {k : Value} {es : List MapEntry} {r : Option (Nat × Value)} (h : (bif keyVal k then Instr.findNow kind k es 0 else none) = some r) : keyVal k = true ∧ Instr.findNow kind k es 0 = some r := by
  cases hb : keyVal k with
  | false => rw [hb] at h; cases h
  | true => rw [hb] at h; exact ⟨rfl, h⟩
theorem keyVal_flat {k : Value} (h : keyVal k = true) : flat k = true := by unfold keyVal at h; split at h <;> first | rfl | cases h
theorem Rel.map (hR : Rel ω B W0 μ s.heap w) {x : Nat} {es : List MapEntry} {k : Nat} (hx : s.heap.get x = some (.map es k)) : ∃ l es', μ x = some l ∧ w.heap[l.blk]? = some (.map es' k) ∧ ERs ω μ es es'.toList := by
  obtain ⟨l, hl, es', h1, h2, h3⟩ := hR.obj x _ hx (by simp)
  exact ⟨l, es', hl, h1, by simpa using h2, fun i e e' h4 h5 => h3 i e e' h4 (by simpa using h5)⟩
theorem run_getMap {r : Nat} {es : Array MapEntry} {k : Nat} (h : w.heap[r]? = some (.map es k)) : (getObj r).run P w = .ok (.map es k) w := by
  simp only [getObj, Sem.run, h]
theorem entries_ok {m m' : Value} {es : List MapEntry} (h : entries m s = some (es, s')) (hm : VR ω μ m m') (hR : Rel ω B W0 μ s.heap w) :
    s' = s ∧ ∃ es' : Array MapEntry, ERs ω μ es es'.toList ∧ ((m' = .map none ∧ es' = #[]) ∨ ∃ r k, m' = .map (some r) ∧ w.heap[r]? = some (.map es' k)) := by
  unfold entries at h
  obtain ⟨mm, hmm, hh⟩ := app h
  clear h
  split at hmm <;> subst hmm
  · obtain ⟨rfl, rfl⟩ := pure_inv hh
    cases hm
    exact ⟨rfl, #[], ⟨rfl, fun i e e' h => by simp at h⟩, .inl ⟨rfl, rfl⟩⟩
  · obtain ⟨p, s1, h1, h2⟩ := bind_inv hh
    obtain ⟨rfl, hmk, hg⟩ := rdMap_inv h1
    obtain ⟨rfl, rfl⟩ := pure_inv h2
    obtain ⟨l, es', hl, hb, hers⟩ := hR.map hg
    cases hm with
    | map x l' hl' =>
      have e0 : l' = l := by rw [hl'] at hl; cases hl; rfl
      subst e0
      exact ⟨rfl, es', hers, .inr ⟨l'.blk, p.2, rfl, hb⟩⟩
  · cases hh
theorem armLookup_ok {t : TypeId} {m k : Operand} {ok : Bool} {v : Value} (h : armLookup t m k ok P call ρ s = some (v, s')) (hρ : ∀ x, VR ω μ (ρ x) (ρ' x)) (hR : Rel ω B W0 μ s.heap w) :
    Gives P (Instr.lookup t (ρ' m) (ρ' k) ok) w (Post ω B W0 μ s s' v) := by
  unfold armLookup at h
  obtain ⟨⟨kind, e⟩, s1, h1, h2⟩ := bind_inv h
  obtain ⟨hmt, rfl⟩ := opt_inv h1
  dsimp only at h2
  obtain ⟨es, s2, h3, h4⟩ := bind_inv h2
  obtain ⟨rfl, es', hers, hes⟩ := entries_ok h3 (hρ m) hR
  obtain ⟨found, s3, h5, h6⟩ := bind_inv h4
  obtain ⟨hf, rfl⟩ := opt_inv h5
  obtain ⟨hkv, hfn⟩ := found_inv hf
  obtain ⟨key, hu1, hu2, hkk⟩ := mapTypes_inv hmt
  have hk := VR.flat (keyVal_flat hkv) (hρ k)
  obtain ⟨r', hr', hrel⟩ := findNow_ok hers hfn
  have hrun : ∀ (v1 : Value) (b : Bool), (match r' with | some (_, v) => v1 = v ∧ b = true | none => zero? P e = some v1 ∧ b = false) →
      (Instr.lookup t (ρ' m) (ρ' k) ok).run P w = .ok (if ok then .tuple #[v1, .bool b] else v1) w := by
    intro v1 b hvb
    have hck : ∀ b, (Instr.checkKey b 10000 key (ρ k)).run P w = .ok () w := fun b => checkKey_run b hu2 hkk hkv
    have hfk := findKey_run (w := w) hu2 hr'
    unfold Instr.lookup
    rw [Sem.run_bind, run_und w hu1, Result.andThen_ok, hk]
    rcases hes with ⟨e1, rfl⟩ | ⟨r, kk, e1, hb⟩
    · rw [e1]
      simp only [Sem.run_bind, Sem.run_pure, Result.andThen_ok, hck]
      rw [hfk, Result.andThen_ok]
      cases r' with
      | none => obtain ⟨h1, rfl⟩ := hvb; simp [run_zero w h1]
      | some p => obtain ⟨j, v2⟩ := p; obtain ⟨rfl, rfl⟩ := hvb; simp
    · rw [e1]
      simp only [Sem.run_bind, Sem.run_pure, Result.andThen_ok, hck, run_getMap hb]
      rw [hfk, Result.andThen_ok]
      cases r' with
      | none => obtain ⟨h1, rfl⟩ := hvb; simp [run_zero w h1]
      | some p => obtain ⟨j, v2⟩ := p; obtain ⟨rfl, rfl⟩ := hvb; simp
  obtain ⟨mm, hmm, hh⟩ := app h6
  clear h6
  split at hmm <;> subst hmm
  · rename_i j v0
    obtain ⟨rfl, rfl⟩ := pure_inv hh
    cases r' with
    | none => exact hrel.elim
    | some p =>
      obtain ⟨j', v'⟩ := p
      refine Gives.of_run (hrun v' true ⟨rfl, rfl⟩) (Post.same hR ?_)
      cases ok
      · exact hrel.2.1
      · exact VR.tuple_of (VRs.cons hrel.2.1 (VRs.cons (.bool true) VRs.nil))
  · obtain ⟨v0, s4, h7, h8⟩ := bind_inv hh
    obtain ⟨hz, rfl⟩ := opt_inv h7
    obtain ⟨hfl, h9⟩ := guard_inv' h8
    obtain ⟨rfl, rfl⟩ := pure_inv h9
    cases r' with
    | some p => exact hrel.elim
    | none =>
      refine Gives.of_run (hrun v0 false ⟨hz, rfl⟩) (Post.same hR ?_)
      cases ok
      · exact VR.refl_flatC hfl
      · exact VR.tuple_of (VRs.cons (VR.refl_flatC hfl) (VRs.cons (.bool false) VRs.nil))
end ops
end Go.Ev



namespace Go.Ev
open Go Go.RowKit
section ops
variable {P : Program} {ω : Nat → Value} {B : Nat} {W0 : World} {μ : Mp} {w : World} {s s' : St} {call : FuncId → List Value → E Value} {ρ ρ' : Operand → Value}
theorem run_set {r : Nat} {o o' : Obj} (h : w.heap[r]? = some o) (hc : ∀ c e f, o ≠ .cells c e f) : (setObj r o').run P w = .ok () { w with heap := w.heap.setIfInBounds r o' } := by
  simp only [setObj, Sem.run, h]
theorem heap_set_self {r : Nat} {o o' : Obj} (h : w.heap[r]? = some o) : (w.heap.setIfInBounds r o')[r]? = some o' := by
  have hlt : r < w.heap.size := (Array.getElem?_eq_some_iff.1 h).1
  rw [Array.getElem?_setIfInBounds]; simp [hlt]
theorem heap_set_other {r b : Nat} {o' : Obj} (h : b ≠ r) : (w.heap.setIfInBounds r o')[b]? = w.heap[b]? := by
  rw [Array.getElem?_setIfInBounds]; rw [if_neg (fun e => h e.symm)]
/-- A map, or an iterator, has turned. -/
theorem Rel.setObj (hR : Rel ω B W0 μ s.heap w) {x : Nat} {o o' : AObj} {R R' : Obj} {l : Loc} (h4 : 4096 ≤ x) (hx : s.heap.get x = some o) (ho : o ≠ .dead) (hl : μ x = some l) (hb : w.heap[l.blk]? = some R)
    (hnew : ObjR ω μ { w with heap := w.heap.setIfInBounds l.blk R' } l o') : Rel ω B W0 μ (s.heap.set x o') { w with heap := w.heap.setIfInBounds l.blk R' } :=
  hR.turn h4 hx ho hl rfl rfl rfl (by simp) (fun b _ hb => heap_set_other hb) (fun _ => hnew)
theorem ObjR.map_of {l : Loc} {es : List MapEntry} {es' : Array MapEntry} {k : Nat} (hb : w.heap[l.blk]? = some (.map es' k)) (h : ERs ω μ es es'.toList) : ObjR ω μ w l (.map es k) :=
  ⟨es', hb, by simpa using h.1, fun i e e' h1 h2 => h.2 i e e' h1 (by simpa using h2)⟩
theorem ERs.push {a b : List MapEntry} (h : ERs ω μ a b) {e e' : MapEntry} (he : e.key = e'.key ∧ e.born = e'.born ∧ VR ω μ e.val e'.val) : ERs ω μ (a ++ [e]) (b ++ [e']) := by
  refine ⟨by simp [h.1], fun i x y ex ey => ?_⟩
  rw [List.getElem?_append] at ex ey
  rw [← h.1] at ey
  split at ex
  · rename_i hlt; rw [if_pos hlt] at ey; exact h.2 i x y ex ey
  · rename_i hlt
    rw [if_neg hlt] at ey
    cases hi : i - a.length with
    | zero => rw [hi] at ex ey; cases ex; cases ey; exact he
    | succ n => rw [hi] at ex; simp at ex
theorem ERs.modify {a b : List MapEntry} (h : ERs ω μ a b) (j : Nat) (f g : MapEntry → MapEntry) (hfg : ∀ e e' : MapEntry, (e.key = e'.key ∧ e.born = e'.born ∧ VR ω μ e.val e'.val) → ((f e).key = (g e').key ∧ (f e).born = (g e').born ∧ VR ω μ (f e).val (g e').val)) :
    ERs ω μ (a.modify j f) (b.modify j g) := by
  refine ⟨by simp [h.1], fun i x y ex ey => ?_⟩
  rw [List.getElem?_modify] at ex ey
  cases hx : a[i]? with
  | none => rw [hx] at ex; cases ex
  | some e =>
    cases hy : b[i]? with
    | none => rw [hy] at ey; cases ey
    | some e' =>
      rw [hx] at ex; rw [hy] at ey
      have := h.2 i e e' hx hy
      by_cases hij : j = i
      · simp [hij] at ex ey; subst ex; subst ey; exact hfg _ _ this
      · simp [hij] at ex ey; subst ex; subst ey; exact this
theorem ERs.erase {a b : List MapEntry} (h : ERs ω μ a b) (j : Nat) : ERs ω μ (a.eraseIdx j) (b.eraseIdx j) := by
  refine ⟨by simp [List.length_eraseIdx, h.1], fun i x y ex ey => ?_⟩
  rw [List.getElem?_eraseIdx] at ex ey
  split at ex
  · rename_i hlt; rw [if_pos hlt] at ey; exact h.2 i x y ex ey
  · rename_i hlt; rw [if_neg hlt] at ey; exact h.2 _ x y ex ey
theorem bytes_eq {a b : ByteArray} (h : (a == b) = true) : a = b := by
  obtain ⟨x⟩ := a
  obtain ⟨y⟩ := b
  have h' : (x == y) = true := h
  rw [eq_of_beq h']
theorem bytes_beq (a : ByteArray) : (a == a) = true := by
  obtain ⟨x⟩ := a
  show (x == x) = true
  exact beq_self_eq_true x
theorem sameNow_eq {kind : TypeDesc} {k k' : Value} (h : Instr.sameNow kind k k' = some true) : k' = k ∧ keyVal k = true := by
  unfold Instr.sameNow at h
  split at h
  · rename_i k1 a k2 b
    split at h
    · rename_i e; subst e
      simp at h; subst h; exact ⟨rfl, rfl⟩
    · cases h
  · have := bytes_eq (Option.some.inj h); subst this; exact ⟨rfl, rfl⟩
  · simp at h; subst h; exact ⟨rfl, rfl⟩
  · cases h
theorem findNow_at {kind : TypeDesc} {k : Value} : ∀ {a : List MapEntry} {i j : Nat} {v : Value}, Instr.findNow kind k a i = some (some (j, v)) → i ≤ j ∧ ∃ e, a[j - i]? = some e ∧ e.key = k ∧ e.val = v := by
  intro a
  induction a with
  | nil => intro i j v h; simp [Instr.findNow] at h
  | cons e a ih =>
    intro i j v h
    simp only [Instr.findNow] at h
    cases hn : Instr.sameNow kind k e.key with
    | none => rw [hn] at h; cases h
    | some t =>
      rw [hn] at h
      cases t with
      | true =>
        simp only [Option.some.injEq, Prod.mk.injEq] at h
        obtain ⟨rfl, rfl⟩ := h
        exact ⟨Nat.le_refl _, e, by simp, (sameNow_eq hn).1, rfl⟩
      | false =>
        obtain ⟨h1, e', h2, h3, h4⟩ := ih h
        refine ⟨by omega, e', ?_, h3, h4⟩
        rw [show j - i = (j - (i + 1)) + 1 by omega]
        simpa using h2
theorem stays {k : Value} (h : keyVal k = true) : (Instr.keyThatStays k k).run P w = .ok k w := by
  unfold Instr.keyThatStays
  have : Instr.sameBits 10000 k k = true := by
    unfold keyVal at h
    split at h
    · simp [Instr.sameBits]
    · simp only [Instr.sameBits]; exact bytes_beq _
    · simp [Instr.sameBits]
    · cases h
  rw [this]
  rfl
theorem armMapUpdate_ok {t : TypeId} {m k v : Operand} {u : Value} (h : armMapUpdate t m k v P call ρ s = some (u, s')) (hρ : ∀ x, VR ω μ (ρ x) (ρ' x)) (hR : Rel ω B W0 μ s.heap w) :
    s'.next = s.next ∧ u = undef ∧ Gives P (Instr.mapUpdate t (ρ' m) (ρ' k) (ρ' v)) w fun _ w' => Rel ω B W0 μ s'.heap w' := by
  unfold armMapUpdate at h
  obtain ⟨⟨kind, e⟩, s1, h1, h2⟩ := bind_inv h
  obtain ⟨hmt, rfl⟩ := opt_inv h1
  dsimp only at h2
  obtain ⟨mm, hmm, hh⟩ := app h2
  clear h2
  have hmv := hρ m
  split at hmm <;> subst hmm
  · rename_i r hrm
    obtain ⟨⟨es, clock⟩, s2, h3, h4⟩ := bind_inv hh
    obtain ⟨rfl, hmk, hg⟩ := rdMap_inv h3
    dsimp only at h4 hg
    obtain ⟨found, s3, h5, h6⟩ := bind_inv h4
    obtain ⟨hf, rfl⟩ := opt_inv h5
    obtain ⟨hkv, hfn⟩ := found_inv hf
    obtain ⟨key, hu1, hu2, hkk⟩ := mapTypes_inv hmt
    have hk := VR.flat (keyVal_flat hkv) (hρ k)
    obtain ⟨l, es', hl, hb, hers⟩ := hR.map hg
    obtain ⟨r', hr', hrel⟩ := findNow_ok hers hfn
    rw [hrm] at hmv
    generalize ρ' m = um at hmv ⊢
    cases hmv with
    | map _ l' hl' =>
      have e0 : l' = l := by rw [hl'] at hl; cases hl; rfl
      subst e0
      have hck := checkKey_run (P := P) (w := w) false hu2 hkk hkv
      have hfk := findKey_run (w := w) hu2 hr'
      rw [hk]
      obtain ⟨mm, hmm, hh⟩ := app h6
      clear h6
      split at hmm <;> subst hmm
      · rename_i j v0
        obtain ⟨_, s4, h7, h8⟩ := bind_inv hh
        obtain ⟨rfl, h4096, _, _⟩ := wr_eq h7
        obtain ⟨rfl, rfl⟩ := pure_inv h8
        cases r' with
        | none => exact hrel.elim
        | some p =>
          obtain ⟨j', v'⟩ := p
          obtain ⟨rfl, _, _, _⟩ := hrel
          obtain ⟨_, e1, he1, he2, _⟩ := findNow_at hr'
          have he1' : es'[j]? = some e1 := by simpa using he1
          refine ⟨rfl, rfl, Gives.of_run (a := ()) (w' := { w with heap := w.heap.setIfInBounds l'.blk (.map (es'.modify j fun e => { e with key := ρ k, val := ρ' v }) clock) }) ?_ ?_⟩
          · unfold Instr.mapUpdate
            rw [Sem.run_bind, run_und w hu1, Result.andThen_ok]
            simp only [Sem.run_bind, run_getMap hb, Result.andThen_ok, hck]
            rw [hfk, Result.andThen_ok]
            simp only [Sem.run_bind, he1', Option.map_some, Option.getD_some, he2, stays hkv, Result.andThen_ok]
            exact run_set hb (by simp)
          · refine hR.setObj h4096 hg (by simp) hl hb (ObjR.map_of (es' := es'.modify j fun e => { e with key := ρ k, val := ρ' v }) (heap_set_self hb) ?_)
            rw [Array.toList_modify]
            exact hers.modify j _ _ (fun e e' h => ⟨rfl, h.2.1, hρ v⟩)
      · obtain ⟨_, s4, h7, h8⟩ := bind_inv hh
        obtain ⟨rfl, h4096, _, _⟩ := wr_eq h7
        obtain ⟨rfl, rfl⟩ := pure_inv h8
        cases r' with
        | some p => exact hrel.elim
        | none =>
          refine ⟨rfl, rfl, Gives.of_run (a := ()) (w' := { w with heap := w.heap.setIfInBounds l'.blk (.map (es'.push { key := ρ k, val := ρ' v, born := clock }) (clock + 1)) }) ?_ ?_⟩
          · unfold Instr.mapUpdate
            rw [Sem.run_bind, run_und w hu1, Result.andThen_ok]
            simp only [Sem.run_bind, run_getMap hb, Result.andThen_ok, hck]
            rw [hfk, Result.andThen_ok]
            exact run_set hb (by simp)
          · refine hR.setObj h4096 hg (by simp) hl hb (ObjR.map_of (es' := es'.push { key := ρ k, val := ρ' v, born := clock }) (heap_set_self hb) ?_)
            rw [Array.toList_push]
            exact hers.push ⟨rfl, rfl, hρ v⟩
  · cases hh
theorem doDelete_ok {ts : Array TypeId} {ty : TypeId} {m k m' k' u : Value} (h : doDelete P ts m k s = some (u, s')) (hm : VR ω μ m m') (hk0 : VR ω μ k k') (hR : Rel ω B W0 μ s.heap w) :
    s'.next = s.next ∧ u = .tuple #[] ∧ Gives P (Builtin.delete_ ts ty #[m', k']) w fun v w' => v = .tuple #[] ∧ Rel ω B W0 μ s'.heap w' := by
  unfold doDelete at h
  obtain ⟨t, s0, h0, h00⟩ := bind_inv h
  obtain ⟨hts, rfl⟩ := opt_inv h0
  obtain ⟨⟨kind, e⟩, s1, h1, h2⟩ := bind_inv h00
  obtain ⟨hmt, rfl⟩ := opt_inv h1
  dsimp only at h2
  obtain ⟨mm, hmm, hh⟩ := app h2
  clear h2
  split at hmm <;> subst hmm
  · rename_i r
    obtain ⟨⟨es, clock⟩, s2, h3, h4⟩ := bind_inv hh
    obtain ⟨rfl, hmk, hg⟩ := rdMap_inv h3
    dsimp only at h4 hg
    obtain ⟨found, s3, h5, h6⟩ := bind_inv h4
    obtain ⟨hf, rfl⟩ := opt_inv h5
    obtain ⟨hkv, hfn⟩ := found_inv hf
    obtain ⟨key, hu1, hu2, hkk⟩ := mapTypes_inv hmt
    have hk := VR.flat (keyVal_flat hkv) hk0
    subst hk
    obtain ⟨l, es', hl, hb, hers⟩ := hR.map hg
    obtain ⟨r', hr', hrel⟩ := findNow_ok hers hfn
    cases hm with
    | map _ l' hl' =>
      have e0 : l' = l := by rw [hl'] at hl; cases hl; rfl
      subst e0
      have hck : ∀ b, (Instr.checkKey b 10000 key k').run P w = .ok () w := fun b => checkKey_run b hu2 hkk hkv
      have hfk := findKey_run (w := w) hu2 hr'
      obtain ⟨mm, hmm, hh⟩ := app h6
      clear h6
      split at hmm <;> subst hmm
      · rename_i j v0
        obtain ⟨_, s4, h7, h8⟩ := bind_inv hh
        obtain ⟨rfl, h4096, _, _⟩ := wr_eq h7
        obtain ⟨rfl, rfl⟩ := pure_inv h8
        cases r' with
        | none => exact hrel.elim
        | some p =>
          obtain ⟨j', v'⟩ := p
          obtain ⟨rfl, _, _, _⟩ := hrel
          refine ⟨rfl, rfl, Gives.of_run (a := .tuple #[]) (w' := { w with heap := w.heap.setIfInBounds l'.blk (.map (es'.eraseIdxIfInBounds j) clock) }) ?_ ⟨rfl, ?_⟩⟩
          · unfold Builtin.delete_
            simp only [hts, List.getElem?_toArray, List.getElem?_cons_zero, List.getElem?_cons_succ]
            rw [Sem.run_bind, run_und w hu1, Result.andThen_ok]
            simp only [Sem.run_bind, run_getMap hb, Result.andThen_ok, hck]
            rw [hfk, Result.andThen_ok]
            dsimp only
            rw [Sem.run_bind, run_set (P := P) hb (o' := .map (es'.eraseIdxIfInBounds j) clock) (by simp), Result.andThen_ok]
            rfl
          · refine hR.setObj h4096 hg (by simp) hl hb (ObjR.map_of (es' := es'.eraseIdxIfInBounds j) (heap_set_self hb) ?_)
            have : (es'.eraseIdxIfInBounds j).toList = es'.toList.eraseIdx j := by
              unfold Array.eraseIdxIfInBounds
              split
              · rw [Array.toList_eraseIdx]
              · rw [List.eraseIdx_of_length_le]; simp; omega
            rw [this]
            exact hers.erase j
      · obtain ⟨_, s4, h7, h8⟩ := bind_inv hh
        obtain ⟨rfl, h4096, _, _⟩ := wr_eq h7
        obtain ⟨rfl, rfl⟩ := pure_inv h8
        cases r' with
        | some p => exact hrel.elim
        | none =>
          refine ⟨rfl, rfl, Gives.of_run (a := .tuple #[]) (w' := { w with heap := w.heap.setIfInBounds l'.blk (.map es' clock) }) ?_ ⟨rfl, ?_⟩⟩
          · unfold Builtin.delete_
            simp only [hts, List.getElem?_toArray, List.getElem?_cons_zero, List.getElem?_cons_succ]
            rw [Sem.run_bind, run_und w hu1, Result.andThen_ok]
            simp only [Sem.run_bind, run_getMap hb, Result.andThen_ok, hck]
            rw [hfk, Result.andThen_ok]
            dsimp only
            rw [Sem.run_bind, run_set (P := P) hb (o' := .map es' clock) (by simp), Result.andThen_ok]
            rfl
          · exact hR.setObj h4096 hg (by simp) hl hb (ObjR.map_of (es' := es') (heap_set_self hb) hers)
  · cases hh
end ops
end Go.Ev



namespace Go.Ev
open Go Go.RowKit
section ops
variable {P : Program} {ω : Nat → Value} {B : Nat} {W0 : World} {μ : Mp} {w : World} {s s' : St} {call : FuncId → List Value → E Value} {ρ ρ' : Operand → Value}
theorem doLen_ok {ts : Array TypeId} {ty : TypeId} {x x' v : Value} (h : doLen P ts x s = some (v, s')) (hx : VR ω μ x x') (hR : Rel ω B W0 μ s.heap w) :
    Gives P (Builtin.len_ ts ty #[x']) w (Post ω B W0 μ s s' v) := by
  unfold doLen at h
  obtain ⟨t, s0, h0, h00⟩ := bind_inv h
  obtain ⟨hts, rfl⟩ := opt_inv h0
  obtain ⟨d, s1, h1, h2⟩ := bind_inv h00
  obtain ⟨hu, rfl⟩ := opt_inv h1
  obtain ⟨mm, hmm, hh⟩ := app h2
  clear h2
  split at hmm <;> subst hmm
  · obtain ⟨rfl, rfl⟩ := pure_inv hh
    cases hx
    refine Gives.of_run ?_ (Post.same hR (.int _ _))
    unfold Builtin.len_; simp only [hts, List.getElem?_toArray, List.getElem?_cons_zero]; rw [Sem.run_bind, run_und w hu, Result.andThen_ok]; rfl
  · obtain ⟨rfl, rfl⟩ := pure_inv hh
    refine Gives.of_run ?_ (Post.same hR (.int _ _))
    unfold Builtin.len_; simp only [hts, List.getElem?_toArray, List.getElem?_cons_zero]; rw [Sem.run_bind, run_und w hu, Result.andThen_ok]; rfl
  · obtain ⟨rfl, rfl⟩ := pure_inv hh
    cases hx <;> (refine Gives.of_run ?_ (Post.same hR (.int _ _)); unfold Builtin.len_; simp only [hts, List.getElem?_toArray, List.getElem?_cons_zero]; rw [Sem.run_bind, run_und w hu, Result.andThen_ok]; rfl)
  · obtain ⟨es, s2, h3, h4⟩ := bind_inv hh
    obtain ⟨rfl, es', hers, hes⟩ := entries_ok h3 hx hR
    obtain ⟨rfl, rfl⟩ := pure_inv h4
    have hl : es.length = es'.size := by simpa using hers.1
    rcases hes with ⟨e1, rfl⟩ | ⟨r, kk, e1, hb⟩
    · refine Gives.of_run (a := goInt es.length) (w' := w) ?_ (Post.same hR (.int _ _))
      unfold Builtin.len_; simp only [hts, List.getElem?_toArray, List.getElem?_cons_zero]; rw [Sem.run_bind, run_und w hu, Result.andThen_ok]
      rw [e1, hl]; rfl
    · refine Gives.of_run (a := goInt es.length) (w' := w) ?_ (Post.same hR (.int _ _))
      unfold Builtin.len_; simp only [hts, List.getElem?_toArray, List.getElem?_cons_zero]; rw [Sem.run_bind, run_und w hu, Result.andThen_ok]
      rw [e1]
      dsimp only
      rw [Sem.run_bind, run_getMap hb, hl]
      rfl
  · cases hh
theorem armMakeMap_ok {t : TypeId} {hn : Option Operand} {v : Value} (h : armMakeMap t hn P call ρ s = some (v, s')) (hρ : ∀ x, VR ω μ (ρ x) (ρ' x)) (hR : Rel ω B W0 μ s.heap w) (h4 : 4096 ≤ s.next) (hf : Fresh μ s.next s'.next) :
    Gives P (Instr.makeMap t (hn.map ρ')) w (Post ω B W0 μ s s' v) := by
  unfold armMakeMap at h
  have fin : ∀ {s s' : St} {v : Value}, ((do pure (.map (some (← nw (.map [] 0)))) : E Value)) s = some (v, s') → Rel ω B W0 μ s.heap w → 4096 ≤ s.next → Fresh μ s.next s'.next →
      Post ω B W0 μ s s' v (.map (some w.heap.size)) (w.alloc (.map #[] 0)) := by
    intro s s' v h hR h4 hf
    obtain ⟨n, s1, h1, h2⟩ := bind_inv h
    obtain ⟨rfl, rfl⟩ := nw_inv h1
    obtain ⟨rfl, rfl⟩ := pure_inv h2
    obtain ⟨μ', he, hr, hm⟩ := nw_ok (R := .map #[] 0) (room := 0) (o := .map [] 0) hR h4 (hf _ (Nat.le_refl _) (by dsimp only; omega)) (fun μ' hx => by
      refine ObjR.map_of (es' := #[]) ?_ ⟨rfl, fun i e e' h => by simp at h⟩
      show (w.heap.push _)[w.heap.size]? = _; rw [Array.getElem?_push, if_pos rfl])
    exact ⟨μ', he, hr, .map _ _ hm⟩
  cases hn with
  | none => exact Gives.of_run (a := .map (some w.heap.size)) (w' := w.alloc (.map #[] 0)) rfl (fin h hR h4 hf)
  | some x =>
    dsimp only at h
    have hx := hρ x
    obtain ⟨mm, hmm, hh⟩ := app h
    clear h
    split at hmm <;> subst hmm
    · rename_i key e k n hu hrx
      rw [hrx] at hx
      refine Gives.of_run (a := .map (some w.heap.size)) (w' := w.alloc (.map #[] 0)) ?_ (fin hh hR h4 hf)
      simp only [Option.map_some]
      rw [VR.flat rfl hx]
      unfold Instr.makeMap
      simp only [Sem.run_bind, run_und w hu, Result.andThen_ok, asInt, asIntOf, Sem.run_pure]
      rfl
    · cases hh
theorem armRange_ok {t : TypeId} {x : Operand} {v : Value} (h : armRange t x P call ρ s = some (v, s')) (hρ : ∀ x, VR ω μ (ρ x) (ρ' x)) (hR : Rel ω B W0 μ s.heap w) (h4 : 4096 ≤ s.next) (hf : Fresh μ s.next s'.next) :
    Gives P (Instr.range t (ρ' x)) w (Post ω B W0 μ s s' v) := by
  unfold armRange at h
  obtain ⟨d, s1, h1, h2⟩ := bind_inv h
  obtain ⟨hu, rfl⟩ := opt_inv h1
  have hx := hρ x
  obtain ⟨mm, hmm, hh⟩ := app h2
  clear h2
  have fin : ∀ {s s' : St} {v : Value} {m : Option Nat} {m' : Option Nat} {a b : Nat}, ((do pure (ptr (← nw (.iter m a [] b)) 0) : E Value)) s = some (v, s') → Rel ω B W0 μ s.heap w → 4096 ≤ s.next → Fresh μ s.next s'.next →
      (match m, m' with | none, none => True | some x, some r => ∃ k, μ x = some k ∧ k.blk = r | _, _ => False) → Post ω B W0 μ s s' v (.pointer (some ⟨w.heap.size, 0, none⟩)) (w.alloc (.mapIter m' a #[] b)) := by
    intro s s' v m m' a b h hR h4 hf hm
    obtain ⟨n, s1, h1, h2⟩ := bind_inv h
    obtain ⟨rfl, rfl⟩ := nw_inv h1
    obtain ⟨rfl, rfl⟩ := pure_inv h2
    obtain ⟨μ', he, hr, hmm⟩ := nw_ok (R := .mapIter m' a #[] b) (room := 0) (o := .iter m a [] b) hR h4 (hf _ (Nat.le_refl _) (by dsimp only; omega)) (fun μ' hx => by
      refine ⟨rfl, m', ?_, ?_⟩
      · show (w.heap.push _)[w.heap.size]? = _; rw [Array.getElem?_push, if_pos rfl]
      · cases m <;> cases m' <;> first | exact hm | skip
        obtain ⟨k, hk, hkb⟩ := hm
        exact ⟨k, hx _ _ hk, hkb⟩)
    refine ⟨μ', he, hr, ?_⟩
    have := VR.ptr (ω := ω) s.next 0 _ hmm
    simpa [ptr] using this
  split at hmm <;> subst hmm
  · rename_i k e hrx
    rw [hrx] at hx
    generalize ρ' x = u at hx ⊢
    cases hx
    refine Gives.of_run (a := .pointer (some ⟨w.heap.size, 0, none⟩)) (w' := w.alloc (.mapIter none 0 #[] 0)) ?_ (fin (m' := none) hh hR h4 hf trivial)
    unfold Instr.range
    rw [Sem.run_bind, run_und w hu, Result.andThen_ok]
    rfl
  · rename_i k e m hrx
    obtain ⟨⟨es, clock⟩, s2, h3, h5⟩ := bind_inv hh
    obtain ⟨rfl, hmk, hg⟩ := rdMap_inv h3
    dsimp only at h5 hg
    obtain ⟨l, es', hl, hb, hers⟩ := hR.map hg
    rw [hrx] at hx
    generalize ρ' x = u at hx ⊢
    cases hx with
    | map _ l' hl' =>
      have e0 : l' = l := by rw [hl'] at hl; cases hl; rfl
      subst e0
      refine Gives.of_run (a := .pointer (some ⟨w.heap.size, 0, none⟩)) (w' := w.alloc (.mapIter (some l'.blk) clock #[] clock)) ?_ (fin (m' := some l'.blk) h5 hR h4 hf ⟨l', hl', rfl⟩)
      unfold Instr.range
      rw [Sem.run_bind, run_und w hu, Result.andThen_ok]
      dsimp only
      rw [Sem.run_bind, run_getMap hb]
      rfl
  · cases hh
theorem among_contains (l : List Nat) (x : Nat) : among l x = l.toArray.contains x := by
  rw [List.contains_toArray]
  induction l with
  | nil => rfl
  | cons a l ih =>
    rw [among, ih, List.contains_cons]
    congr 1
    by_cases h : a = x
    · subst h; simp
    · rw [show Nat.beq a x = false from by rw [beq_dec]; exact decide_eq_false h]
      symm; exact beq_eq_false_iff_ne.2 (fun e => h e.symm)
theorem filter_ERs {a b : List MapEntry} (h : ERs ω μ a b) (p : Nat → Bool) : ERs ω μ (a.filter fun e => p e.born) (b.filter fun e => p e.born) := by
  induction a generalizing b with
  | nil => have : b = [] := List.length_eq_zero_iff.1 h.1.symm; subst this; exact h
  | cons e a ih =>
    cases b with
    | nil => have := h.1; simp at this
    | cons e' b =>
      obtain ⟨⟨h1, h2, h3⟩, h4⟩ := h.tail
      have ih := ih h4
      rw [List.filter_cons, List.filter_cons, ← h2]
      by_cases hp : p e.born = true
      · rw [if_pos hp, if_pos hp]
        refine ⟨by simp [ih.1], fun i x y ex ey => ?_⟩
        cases i with
        | zero => simp at ex ey; subst ex; subst ey; exact ⟨h1, h2, h3⟩
        | succ i => simp at ex ey; exact ih.2 i x y ex ey
      · rw [if_neg hp, if_neg hp]; exact ih
theorem all_ERs {a b : List MapEntry} (h : ERs ω μ a b) (p : Nat → Bool) : (a.all fun e => p e.born) = b.all fun e => p e.born := by
  induction a generalizing b with
  | nil => have : b = [] := List.length_eq_zero_iff.1 h.1.symm; subst this; rfl
  | cons e a ih =>
    cases b with
    | nil => have := h.1; simp at this
    | cons e' b =>
      obtain ⟨⟨h1, h2, h3⟩, h4⟩ := h.tail
      simp only [List.all_cons, h2, ih h4]
end ops
end Go.Ev



namespace Go.Ev
open Go Go.RowKit
section ops
variable {P : Program} {ω : Nat → Value} {B : Nat} {W0 : World} {μ : Mp} {w : World} {s s' : St} {call : FuncId → List Value → E Value} {ρ ρ' : Operand → Value}
theorem run_getIter {r : Nat} {m : Option Nat} {a b : Nat} {c : Array Nat} (h : w.heap[r]? = some (.mapIter m a c b)) : (getObj r).run P w = .ok (.mapIter m a c b) w := by
  simp only [getObj, Sem.run, h]
theorem filter_toList (es : Array MapEntry) (p : MapEntry → Bool) : (es.filter p).toList = es.toList.filter p := by simp
theorem arr_of_list {α : Type} {a : Array α} {l : List α} (h : a.toList = l) : a = l.toArray := by rw [← h]
theorem ERs.one {e : MapEntry} {b : List MapEntry} (h : ERs ω μ [e] b) : ∃ e', b = [e'] ∧ e.key = e'.key ∧ e.born = e'.born ∧ VR ω μ e.val e'.val := by
  match b, h with
  | [e'], h => exact ⟨e', rfl, h.2 0 e e' rfl rfl⟩
  | [], h => have := h.1; simp at this
  | _ :: _ :: _, h => have := h.1; simp at this
theorem ERs.zero {b : List MapEntry} (h : ERs ω μ [] b) : b = [] := List.length_eq_zero_iff.1 h.1.symm
theorem run_next {r m since last clock : Nat} {seen : Array Nat} {es : Array MapEntry} {ty : TypeId} (hb : w.heap[r]? = some (.mapIter (some m) since seen last)) (hm : w.heap[m]? = some (.map es clock))
    (hc : (!seen.isEmpty && !es.isEmpty && es.all (·.born ≥ last)) = false) {old new : List MapEntry}
    (ho : (es.filter fun e => !seen.contains e.born).filter (·.born < since) = old.toArray) (hn : (es.filter fun e => !seen.contains e.born).filter (·.born ≥ since) = new.toArray) :
    (old = [] → new = [] → (Instr.next (.pointer (some ⟨r, 0, none⟩)) false ty).run P w = .ok (.tuple #[.bool false]) w) ∧
    (∀ e, old = [e] → new = [] → (Instr.next (.pointer (some ⟨r, 0, none⟩)) false ty).run P w = .ok (.tuple #[.bool true, e.key, e.val]) { w with heap := w.heap.setIfInBounds r (.mapIter (some m) since (seen.push e.born) clock) }) := by
  constructor
  · intro e1 e2
    subst e1; subst e2
    unfold Instr.next
    refine (Sem.run_bind P w (getObj r) _).trans ?_
    rw [run_getIter hb, Result.andThen_ok]
    dsimp only
    rw [Sem.run_bind, run_getMap hm, Result.andThen_ok]
    dsimp only
    rw [hc]
    simp only [Bool.false_eq_true, if_false]
    rw [ho, hn]
    have c1 : ((if (([] : List MapEntry).toArray).isEmpty = true then #[none] else #[]) ++ Array.map some (([] : List MapEntry).toArray ++ ([] : List MapEntry).toArray) : Array (Option MapEntry)) = #[none] := by simp
    rw [c1]
    simp only [Sem.run_bind, run_choose]
    rfl
  · intro e e1 e2
    subst e1; subst e2
    unfold Instr.next
    refine (Sem.run_bind P w (getObj r) _).trans ?_
    rw [run_getIter hb, Result.andThen_ok]
    dsimp only
    rw [Sem.run_bind, run_getMap hm, Result.andThen_ok]
    dsimp only
    rw [hc]
    simp only [Bool.false_eq_true, if_false]
    rw [ho, hn]
    have c2 : ((if ([e].toArray : Array MapEntry).isEmpty = true then #[none] else #[]) ++ Array.map some ([e].toArray ++ ([] : List MapEntry).toArray) : Array (Option MapEntry)) = #[some e] := by simp
    rw [c2]
    simp only [Sem.run_bind, run_choose]
    rw [if_pos (by rfl)]
    simp only [Result.andThen_ok]
    rw [show (#[some e] : Array (Option MapEntry))[0]? = some (some e) from rfl]
    dsimp only
    rw [Sem.run_bind, run_set (P := P) hb (by simp), Result.andThen_ok]
    rfl
theorem armNext_ok {x : Operand} {b : Bool} {ty : TypeId} {v : Value} (h : armNext x b P call ρ s = some (v, s')) (hρ : ∀ x, VR ω μ (ρ x) (ρ' x)) (hR : Rel ω B W0 μ s.heap w) :
    Gives P (Instr.next (ρ' x) b ty) w (Post ω B W0 μ s s' v) := by
  unfold armNext at h
  obtain ⟨⟨r, o⟩, s1, h1, h2⟩ := bind_inv h
  obtain ⟨hp, rfl⟩ := opt_inv h1
  dsimp only at h2
  obtain ⟨ob, s2, h4, h3⟩ := bind_inv h2
  obtain ⟨rfl, hm, hgo, hd⟩ := rd_eq h4
  obtain ⟨hg, h5⟩ := guard_inv h3
  simp only [Bool.or_eq_false_iff, Bool.not_eq_false'] at hg
  obtain ⟨rfl, ho⟩ := hg
  have ho := Nat.eq_of_beq_eq_true ho
  subst ho
  have hx := hρ x
  rw [place_inv hp] at hx
  generalize ρ' x = u at hx ⊢
  cases hx with
  | ptr _ _ l hl =>
  obtain ⟨l0, hl0, hob⟩ := hR.obj r ob hgo hd
  have e0 : l0 = l := by rw [hl] at hl0; cases hl0; rfl
  subst e0
  obtain ⟨mm, hmm, hh⟩ := app h5
  clear h5
  split at hmm <;> subst hmm
  · obtain ⟨hz, m', hb, hmt⟩ := hob
    obtain ⟨rfl, rfl⟩ := pure_inv hh
    cases m' with
    | some r' => exact hmt.elim
    | none =>
      refine Gives.of_run (a := .tuple #[.bool false]) (w' := w) ?_ (Post.same hR (VR.tuple_of (VRs.cons (.bool false) VRs.nil)))
      rw [hz]
      unfold Instr.next
      refine (Sem.run_bind P w (getObj l0.blk) _).trans ?_
      rw [run_getIter hb]
      rfl
  · rename_i m since seen last
    obtain ⟨hz, m', hb, hmt⟩ := hob
    obtain ⟨⟨es, clock⟩, s3, h6, h7⟩ := bind_inv hh
    obtain ⟨rfl, hmk, hgm⟩ := rdMap_inv h6
    dsimp only at h7 hgm
    obtain ⟨lm, es', hlm, hbm, hers⟩ := hR.map hgm
    cases m' with
    | none => exact hmt.elim
    | some r' =>
    obtain ⟨k, hk, hkb⟩ := hmt
    have e1 : k = lm := by rw [hk] at hlm; cases hlm; rfl
    subst e1
    subst hkb
    obtain ⟨hg2, h8⟩ := guard_inv h7
    rw [hz]
    have hc : (!seen.toArray.isEmpty && !es'.isEmpty && es'.all (·.born ≥ last)) = false := by
      rw [← hg2]
      congr 1
      · congr 1
        · simp
        · have := hers.1
          have e2 : es'.isEmpty = es.isEmpty := by
            rw [← Array.isEmpty_toList]
            cases es <;> cases hq : es'.toList <;> first | rfl | (rw [hq] at this; simp at this)
          rw [e2]
      · rw [← Array.all_toList]
        have := all_ERs hers (fun b => Nat.ble last b)
        rw [this]
        congr 1
        funext e
        rw [ble_dec]
    have hleft := filter_ERs hers (fun b => !(among seen b))
    have hold := filter_ERs hleft (fun b => Nat.ble (Nat.succ b) since)
    have hnew := filter_ERs hleft (fun b => Nat.ble since b)
    have eo : ((es'.filter fun e => !seen.toArray.contains e.born).filter (·.born < since)).toList = (es'.toList.filter fun e => !(among seen e.born)).filter fun e => Nat.ble (Nat.succ e.born) since := by
      rw [filter_toList, filter_toList]
      congr 1
      · funext e; rw [ble_dec]; rfl
      · congr 1; funext e; rw [among_contains]
    have en : ((es'.filter fun e => !seen.toArray.contains e.born).filter (·.born ≥ since)).toList = (es'.toList.filter fun e => !(among seen e.born)).filter fun e => Nat.ble since e.born := by
      rw [filter_toList, filter_toList]
      congr 1
      · funext e; rw [ble_dec]
      · congr 1; funext e; rw [among_contains]
    obtain ⟨n1, n2⟩ := run_next (P := P) (ty := ty) hb hbm hc (arr_of_list eo) (arr_of_list en)
    obtain ⟨mm, hmm, hh⟩ := app h8
    clear h8
    split at hmm <;> subst hmm
    · rename_i h9 h10
      obtain ⟨rfl, rfl⟩ := pure_inv hh
      rw [h9] at hold; rw [h10] at hnew
      exact Gives.of_run (n1 hold.zero hnew.zero) (Post.same hR (VR.tuple_of (VRs.cons (.bool false) VRs.nil)))
    · rename_i e h9 h10
      obtain ⟨hfk, h11⟩ := guard_inv hh
      obtain ⟨_, s4, h12, h13⟩ := bind_inv h11
      obtain ⟨rfl, h4096, _, _⟩ := wr_eq h12
      obtain ⟨rfl, rfl⟩ := pure_inv h13
      rw [h9] at hold; rw [h10] at hnew
      obtain ⟨e', he, hk1, hb1, hv1⟩ := hold.one
      refine Gives.of_run (n2 e' he hnew.zero) ?_
      refine ⟨μ, Ext.refl _ _ _, ?_, ?_⟩
      · refine hR.setObj h4096 hgo hd hl hb ⟨hz, some k.blk, ?_, ⟨k, hk, rfl⟩⟩
        dsimp only
        rw [heap_set_self hb]
        rw [hb1]
        simp
      · rw [← hk1]
        exact VR.tuple_of (VRs.cons (.bool true) (VRs.cons (VR.refl_flat (by simpa using hfk)) (VRs.cons hv1 VRs.nil)))
    · cases hh
  · cases hh
theorem armEntry_ok {x : Operand} {v : Value} (h : armEntry x P call ρ s = some (v, s')) (hρ : ∀ x, VR ω μ (ρ x) (ρ' x)) (hR : Rel ω B W0 μ s.heap w) :
    Gives P (Instr.entry (ρ' x)) w (Post ω B W0 μ s s' v) := by
  unfold armEntry at h
  obtain ⟨⟨r, o⟩, s1, h1, h2⟩ := bind_inv h
  obtain ⟨hp, rfl⟩ := opt_inv h1
  dsimp only at h2
  obtain ⟨ob, s2, h4, h3⟩ := bind_inv h2
  obtain ⟨rfl, hm, hgo, hd⟩ := rd_eq h4
  obtain ⟨hg, h5⟩ := guard_inv h3
  have ho : o = 0 := Nat.eq_of_beq_eq_true (by cases hq : Nat.beq o 0 with | true => rfl | false => rw [hq] at hg; cases hg)
  subst ho
  have hx := hρ x
  rw [place_inv hp] at hx
  generalize ρ' x = u at hx ⊢
  cases hx with
  | ptr _ _ l hl =>
  obtain ⟨l0, hl0, hob⟩ := hR.obj r ob hgo hd
  have e0 : l0 = l := by rw [hl] at hl0; cases hl0; rfl
  subst e0
  obtain ⟨mm, hmm, hh⟩ := app h5
  clear h5
  split at hmm <;> subst hmm
  · rename_i m since seen last
    obtain ⟨hz, m', hb, hmt⟩ := hob
    obtain ⟨st, s3, h6, h7⟩ := bind_inv hh
    obtain ⟨hst, rfl⟩ := opt_inv h6
    obtain ⟨⟨es, clock⟩, s4, h8, h9⟩ := bind_inv h7
    obtain ⟨rfl, hmk, hgm⟩ := rdMap_inv h8
    dsimp only at h9 hgm
    obtain ⟨hg2, h10⟩ := guard_inv h9
    have hcl := Nat.eq_of_beq_eq_true (by cases hq : Nat.beq clock last with | true => rfl | false => rw [hq] at hg2; cases hg2)
    obtain ⟨e, s5, h11, h12⟩ := bind_inv h10
    obtain ⟨hfe, rfl⟩ := opt_inv h11
    obtain ⟨hfk, h13⟩ := guard_inv' h12
    obtain ⟨rfl, rfl⟩ := pure_inv h13
    obtain ⟨lm, es', hlm, hbm, hers⟩ := hR.map hgm
    cases m' with
    | none => exact hmt.elim
    | some r' =>
    obtain ⟨k, hk, hkb⟩ := hmt
    have e1 : k = lm := by rw [hk] at hlm; cases hlm; rfl
    subst e1
    subst hkb
    subst hcl
    have hfind : ∀ {a b : List MapEntry}, ERs ω μ a b → a.find? (fun e => Nat.beq e.born st) = some e → ∃ e', b.find? (·.born == st) = some e' ∧ e.key = e'.key ∧ VR ω μ e.val e'.val := by
      intro a
      induction a with
      | nil => intro b _ h; cases h
      | cons e1 a ih =>
        intro b hab h
        cases b with
        | nil => have := hab.1; simp at this
        | cons e2 b =>
          obtain ⟨⟨q1, q2, q3⟩, q4⟩ := hab.tail
          rw [List.find?_cons] at h ⊢
          have hbe : (e2.born == st) = Nat.beq e1.born st := by rw [← q2, beq_dec]; rfl
          rw [hbe]
          cases hbb : Nat.beq e1.born st with
          | true => rw [hbb] at h; cases h; exact ⟨e2, rfl, q1, q3⟩
          | false => rw [hbb] at h; exact ih q4 h
    obtain ⟨e', he', hke, hve⟩ := hfind hers hfe
    rw [hz]
    refine Gives.of_run (a := .tuple #[e'.key, e'.val]) (w' := w) ?_ (Post.same hR ?_)
    · unfold Instr.entry
      refine (Sem.run_bind P w (getObj l0.blk) _).trans ?_
      rw [run_getIter hb, Result.andThen_ok]
      dsimp only
      have hbk : seen.toArray.back? = some st := by simpa using hst
      rw [hbk]
      dsimp only
      rw [Sem.run_bind, run_getMap hbm, Result.andThen_ok]
      have hfa : es'.find? (·.born == st) = some e' := by rw [← Array.find?_toList]; exact he'
      simp [hfa]
    · rw [← hke]
      exact VR.tuple_of (VRs.cons (VR.refl_flat hfk) (VRs.cons hve VRs.nil))
  · cases hh
end ops
end Go.Ev
