/- PART EvQ2 of a proof by an evaluator of the model that is proved sound. -/
import Derived.Test.YtkaeneplpelgeaaGreatDoorEvQ
set_option linter.unusedVariables false
set_option linter.unusedSimpArgs false
namespace Go.Ev
open Go Go.RowKit
section ops
variable {P : Program} {ω : Nat → Value} {B : Nat} {W0 : World} {μ : Mp} {w : World} {s s' : St} {call : FuncId → List Value → E Value} {ρ ρ' : Operand → Value}
theorem binOp_eql {t : TypeId} {a b : Value} {r : Bool} (h1 : ∀ k n, a ≠ .int k n) (h2 : ∀ s, a ≠ .string s) (h3 : ∀ k n, a ≠ .float k n) (h4 : ∀ k n m, a ≠ .complex k n m) (h : (Op.equal t a b).run P w = .ok r w) :
    (binOp .eql t a b).run P w = .ok (.bool r) w ∧ (binOp .neq t a b).run P w = .ok (.bool (!r)) w := by
  have e1 : binOp .eql t a b = (do pure (.bool (← Op.equal t a b))) := by
    cases a <;> first | rfl | exact absurd rfl (h1 _ _) | exact absurd rfl (h2 _) | exact absurd rfl (h3 _ _) | exact absurd rfl (h4 _ _ _)
  have e2 : binOp .neq t a b = (do pure (.bool (!(← Op.equal t a b)))) := by
    cases a <;> first | rfl | exact absurd rfl (h1 _ _) | exact absurd rfl (h2 _) | exact absurd rfl (h3 _ _) | exact absurd rfl (h4 _ _ _)
  rw [e1, e2]
  constructor <;> rw [Sem.run_bind, h, Result.andThen_ok] <;> rfl
theorem nilEq_ok {op : BinOp} {t : TypeId} {x y : Operand} {a b a' b' v : Value} (h : nilEq P op t a b s = some (v, s')) (ha : VR ω μ a a') (hb : VR ω μ b b') (hR : Rel ω B W0 μ s.heap w) :
    Gives P (do eqGuard op t x y a' b'; binOp op t a' b') w (Post ω B W0 μ s s' v) := by
  unfold nilEq at h
  obtain ⟨d, s1, h1, h2⟩ := bind_inv h
  obtain ⟨hu, rfl⟩ := opt_inv h1
  obtain ⟨p, s2, h3, h4⟩ := bind_inv h2
  obtain ⟨hp, rfl⟩ := opt_inv h3
  obtain ⟨q, s3, h5, h6⟩ := bind_inv h4
  obtain ⟨hq, rfl⟩ := opt_inv h5
  obtain ⟨hg, h7⟩ := guard_inv h6
  simp only [Bool.not_eq_false', Bool.and_eq_true] at hg
  obtain ⟨⟨g1, g2⟩, g3⟩ := hg
  obtain ⟨e1, e2, e3, e4, e5, e6, e7⟩ := equal_nil (w := w) hu hp hq g1 g2 g3 ha hb
  obtain ⟨r1, r2⟩ := binOp_eql e4 e5 e6 e7 e1
  obtain ⟨m, hm, hh⟩ := app h7
  clear h7 h6 h5 h4 h3 h2 h1 h
  split at hm <;> subst hm
  · obtain ⟨rfl, rfl⟩ := pure_inv hh
    exact bin_gives e2 e3 r1 (Post.same hR (.bool _))
  · obtain ⟨rfl, rfl⟩ := pure_inv hh
    exact bin_gives e2 e3 r2 (Post.same hR (.bool _))
  · cases hh
theorem ifaceEq_inv {op : BinOp} {t : TypeId} {r : Bool} {v : Value} (h : ifaceEq? P op t r = some v) : ∃ ms, P.underlying t = some (.interface ms) ∧ ((op = .eql ∧ v = .bool r) ∨ (op = .neq ∧ v = .bool (!r))) := by
  unfold ifaceEq? at h
  cases hu : P.underlying t with
  | none => rw [hu] at h; cases h
  | some d =>
    rw [hu] at h
    cases d
    case interface ms =>
      refine ⟨ms, rfl, ?_⟩
      cases op <;> first | (cases h; done) | exact .inl ⟨rfl, (Option.some.inj h).symm⟩ | exact .inr ⟨rfl, (Option.some.inj h).symm⟩
    all_goals cases h
theorem bin_both {op : BinOp} {t : TypeId} {x y : Operand} {a b v : Value} {r : Bool} {R : Value → World → Prop} (h1 : ∀ k n, a ≠ .int k n) (h2 : ∀ s, a ≠ .string s) (h3 : ∀ k n, a ≠ .float k n) (h4 : ∀ k n m, a ≠ .complex k n m) (he : (Op.equal t a b).run P w = .ok r w)
    (hop : (op = .eql ∧ v = .bool r) ∨ (op = .neq ∧ v = .bool (!r))) (hg : (eqGuard op t x y a b).run P w = .ok () w) (hR : R v w) : Gives P (do eqGuard op t x y a b; binOp op t a b) w R := by
  obtain ⟨r1, r2⟩ := binOp_eql h1 h2 h3 h4 he
  rcases hop with ⟨rfl, rfl⟩ | ⟨rfl, rfl⟩
  · exact Gives.of_run (by rw [Sem.run_bind, hg, Result.andThen_ok, r1]) hR
  · exact Gives.of_run (by rw [Sem.run_bind, hg, Result.andThen_ok, r2]) hR
theorem equal_held {t a b : TypeId} {ms : Array (String × TypeId)} {u v u' v' : Value} {r : Bool} (ht : P.underlying t = some (.interface ms)) (h : sameHeld? P a u b v = some r) (hu : VR ω μ u u') (hv : VR ω μ v v') : (Op.equal t (.iface a u') (.iface b v')).run P w = .ok r w := by
  unfold Op.equal Op.maxDepth
  rw [show (10000 : Nat) = 9999 + 1 from rfl, Op.equalIn, Sem.run_bind, run_und w ht, Result.andThen_ok]
  dsimp only
  unfold sameHeld? at h
  cases hb : Nat.beq a b with
  | false =>
    rw [hb] at h
    have hr : false = r := Option.some.inj h
    rw [if_pos (Nat.ne_of_beq_eq_false hb), ← hr]
    rfl
  | true =>
    rw [hb] at h
    have hab := Nat.eq_of_beq_eq_true hb
    subst hab
    rw [if_neg (by simp)]
    cases u
    case int k m =>
      cases v
      case int k' n =>
        cases hu; cases hv
        have h' : (bif Nat.beq (kNum k) (kNum k') then (match P.info? a, P.underlying a with | some i, some (.int _) => bif i.comparable then some (eqI m n) else none | _, _ => none) else none) = some r := h
        clear h
        have hkk : k = k' := by
          cases hk : Nat.beq (kNum k) (kNum k') with
          | false => rw [hk] at h'; cases h'
          | true =>
            have := Nat.eq_of_beq_eq_true hk
            revert this; cases k <;> cases k' <;> simp [kNum]
        subst hkk
        rw [Nat.beq_refl] at h'
        cases hi : P.info? a with
        | none => rw [hi] at h'; cases h'
        | some i =>
          rw [hi] at h'
          cases hd : P.underlying a with
          | none => rw [hd] at h'; cases h'
          | some d =>
            rw [hd] at h'
            cases d
            case int ki =>
              have h2 : (bif i.comparable then some (eqI m n) else none) = some r := h'
              cases hc : i.comparable with
              | false => rw [hc] at h2; cases h2
              | true =>
                rw [hc] at h2
                have hr : eqI m n = r := Option.some.inj h2
                have e : eqI m n = (m == n) := by
                  cases m <;> cases n <;> simp only [eqI] <;> rw [Bool.eq_iff_iff] <;> simp [Nat.beq_eq] <;> omega
                rw [Sem.run_bind, run_info w hi, Result.andThen_ok]
                rw [if_neg (by simp [hc])]
                rw [show (9999 : Nat) = 9998 + 1 from rfl, Op.equalIn, Sem.run_bind, run_und w hd, Result.andThen_ok]
                dsimp only
                rw [if_pos rfl, ← hr, e]
                rfl
            all_goals cases h'
      all_goals cases h
    all_goals cases h
theorem armBin_ok {op : BinOp} {t : TypeId} {x y : Operand} {v : Value} (h : armBin op t x y P call ρ s = some (v, s')) (hρ : ∀ x, VR ω μ (ρ x) (ρ' x)) (hR : Rel ω B W0 μ s.heap w) :
    Gives P (do eqGuard op t x y (ρ' x) (ρ' y); binOp op t (ρ' x) (ρ' y)) w (Post ω B W0 μ s s' v) := by
  unfold armBin at h
  have hx := hρ x
  have hy := hρ y
  obtain ⟨m, hm, hh⟩ := app h
  clear h
  split at hm <;> subst hm
  · rename_i k i k' j hrx hry
    rw [hrx] at hx; rw [hry] at hy
    rw [VR.flat rfl hx, VR.flat rfl hy]
    obtain ⟨m, hm, hh⟩ := app hh
    split at hm <;> subst hm
    · rename_i v' hf
      obtain ⟨rfl, rfl⟩ := pure_inv hh
      exact bin_gives (by simp) (by simp) (fastInt_ok hf) (Post.same hR (VR.refl_flat (fastInt_flat hf)))
    · obtain ⟨h1, h2, rfl⟩ := pureVal_inv hh
      exact bin_gives (by simp) (by simp) (evalPure_run h1 w) (Post.same hR (VR.refl_flat h2))
  · rename_i a b hrx hry
    rw [hrx] at hx; rw [hry] at hy
    rw [VR.flat rfl hx, VR.flat rfl hy]
    obtain ⟨h1, h2, rfl⟩ := pureVal_inv hh
    exact bin_gives (by simp) (by simp) (evalPure_run h1 w) (Post.same hR (VR.refl_flat h2))
  · rename_i a b hrx hry
    rw [hrx] at hx; rw [hry] at hy
    rw [VR.flat rfl hx, VR.flat rfl hy]
    obtain ⟨h1, h2, rfl⟩ := pureVal_inv hh
    exact bin_gives (by simp) (by simp) (evalPure_run h1 w) (Post.same hR (VR.refl_flat h2))
  · rename_i hrx hry
    rw [hrx] at hx; rw [hry] at hy
    rw [VR.flat rfl hx, VR.flat rfl hy]
    obtain ⟨hg, h1⟩ := guard_inv' hh
    obtain ⟨h2, rfl⟩ := opt_inv h1
    obtain ⟨ms, hu, hop⟩ := ifaceEq_inv h2
    refine bin_both (r := true) (by simp) (by simp) (by simp) (by simp) ?_ hop ?_ ?_
    · unfold Op.equal Op.maxDepth
      rw [show (10000 : Nat) = 9999 + 1 from rfl, Op.equalIn, Sem.run_bind, run_und w hu, Result.andThen_ok]
      rfl
    · unfold eqGuard
      rcases hop with ⟨rfl, _⟩ | ⟨rfl, _⟩ <;> (cases x <;> first | rfl | (cases y <;> first | rfl | (cases hg; done)))
    · rcases hop with ⟨_, rfl⟩ | ⟨_, rfl⟩ <;> exact Post.same hR (.bool _)
  · rename_i a u b v' hrx hry
    rw [hrx] at hx; rw [hry] at hy
    generalize hx' : ρ' x = x' at hx
    generalize hy' : ρ' y = y' at hy
    cases hx with
    | iface _ _ u2 hv =>
      cases hy with
      | iface _ _ v2 hv2 =>
        obtain ⟨r, s1, g1, g2⟩ := bind_inv hh
        obtain ⟨hs, rfl⟩ := opt_inv g1
        obtain ⟨h2, rfl⟩ := opt_inv g2
        obtain ⟨ms, hu, hop⟩ := ifaceEq_inv h2
        refine bin_both (r := r) (by simp) (by simp) (by simp) (by simp) (equal_held hu hs hv hv2) hop ?_ ?_
        · unfold eqGuard
          rcases hop with ⟨rfl, _⟩ | ⟨rfl, _⟩ <;> rfl
        · rcases hop with ⟨_, rfl⟩ | ⟨_, rfl⟩ <;> exact Post.same hR (.bool _)
  · exact nilEq_ok hh hx hy hR

/-- A piece of a row of cells. -/
theorem part_ok {t : TypeId} {cs cs' : Array Value} {off : Nat} {v : Value} (h : part? P t cs off = some v) (hs : VRs ω μ cs.toList cs'.toList) : ∃ v', (part t cs' off).run P w = .ok v' w ∧ VR ω μ v v' := by
  unfold part? at h
  split at h
  · cases h
  · rename_i hag
    cases hz : size? P t with
    | none => rw [hz] at h; cases h
    | some z =>
      rw [hz] at h
      cases h
      refine ⟨.agg (cs'.extract off (off + z)), by simp [part, run_isAgg w hag, run_size w hz], ?_⟩
      have : VRs ω μ (cs.extract off (off + z)).toList (cs'.extract off (off + z)).toList := by
        simpa using (hs.drop off).take (off + z - off)
      exact VR.agg _ _ (by have := this.1; rwa [Array.length_toList, Array.length_toList] at this) (fun i v v' e e' => this.2 i v v' (by rw [Array.getElem?_toList]; exact e) (by rw [Array.getElem?_toList]; exact e'))
  · rename_i hag
    obtain ⟨v', hv', hr⟩ := hs.get (show cs.toList[off]? = some v by simpa using h)
    have hv2 : cs'[off]? = some v' := by simpa using hv'
    refine ⟨v', ?_, hr⟩
    simp [part, run_isAgg w hag, hv2]
theorem armField_ok {t : TypeId} {x : Operand} {f : Nat} {v : Value} (h : armField t x f P call ρ s = some (v, s')) (hρ : ∀ x, VR ω μ (ρ x) (ρ' x)) (hR : Rel ω B W0 μ s.heap w) :
    Gives P (Instr.field t (ρ' x) f) w (Post ω B W0 μ s s' v) := by
  unfold armField at h
  have hx := hρ x
  obtain ⟨m, hm, hh⟩ := app h
  clear h
  split at hm <;> subst hm
  · rename_i cs fs hrx hu
    obtain ⟨h1, rfl⟩ := opt_inv hh
    rw [hrx] at hx
    generalize ρ' x = u at hx ⊢
    cases hx with
    | agg _ cs' ha hv =>
      cases hf : fs[f]? with
      | none => rw [hf] at h1; cases h1
      | some fd =>
        rw [hf] at h1
        obtain ⟨v', hr, hvr⟩ := part_ok (w := w) (show part? P fd.type cs fd.offset = some v from h1) (VRs.of_arrays ha hv)
        refine Gives.of_run (a := v') (w' := w) ?_ (Post.same hR hvr)
        simp [Instr.field, run_und w hu, hf, asAgg, hr]
  · cases hh
theorem armIndex_ok {t : TypeId} {x i : Operand} {v : Value} (h : armIndex t x i P call ρ s = some (v, s')) (hρ : ∀ x, VR ω μ (ρ x) (ρ' x)) (hR : Rel ω B W0 μ s.heap w) :
    Gives P (Instr.index t (ρ' x) (ρ' i)) w (Post ω B W0 μ s s' v) := by
  unfold armIndex at h
  have hx := hρ x
  have hi := hρ i
  obtain ⟨m, hm, hh⟩ := app h
  clear h
  split at hm <;> subst hm
  · rename_i cs n e hrx hu
    obtain ⟨j, s2, h3, h4⟩ := bind_inv hh
    obtain ⟨hj, rfl⟩ := opt_inv h3
    obtain ⟨z, s3, h5, h6⟩ := bind_inv h4
    obtain ⟨hz, rfl⟩ := opt_inv h5
    obtain ⟨h7, rfl⟩ := opt_inv h6
    obtain ⟨kd, hki, hlt⟩ := index_inv hj
    rw [hki] at hi; rw [hrx] at hx
    rw [VR.flat rfl hi]
    generalize ρ' x = u at hx ⊢
    cases hx with
    | agg _ cs' ha hv =>
      obtain ⟨v', hr, hvr⟩ := part_ok (w := w) h7 (VRs.of_arrays ha hv)
      refine Gives.of_run (a := v') (w' := w) ?_ (Post.same hR hvr)
      simp [Instr.index, asIntOf, run_und w hu, hlt, run_size w hz, hr]
  · rename_i st hrx hu
    obtain ⟨j, s2, h3, h4⟩ := bind_inv hh
    obtain ⟨hj, rfl⟩ := opt_inv h3
    obtain ⟨b, s3, h5, h6⟩ := bind_inv h4
    obtain ⟨hb, rfl⟩ := opt_inv h5
    obtain ⟨rfl, rfl⟩ := pure_inv h6
    obtain ⟨kd, hki, hlt⟩ := index_inv hj
    rw [hki] at hi; rw [hrx] at hx
    rw [VR.flat rfl hi, VR.flat rfl hx]
    refine Gives.of_run (a := .int .u8 b.toNat) (w' := w) ?_ (Post.same hR (.int _ _))
    have hget : st[j]? = some b := by
      have h1 : st[j]? = some (st[j]'hlt) := getElem?_pos st j hlt
      have h2 : st.data[j]? = some (st.data[j]'hlt) := getElem?_pos st.data j hlt
      rw [hb] at h2
      rw [h1, h2]; rfl
    simp [Instr.index, asIntOf, run_und w hu, hget]
  · cases hh
end ops
end Go.Ev
