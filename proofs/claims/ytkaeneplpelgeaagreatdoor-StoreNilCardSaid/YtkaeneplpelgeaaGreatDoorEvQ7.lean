/- PART EvQ7 of a proof by an evaluator of the model that is proved sound. -/
import Derived.Test.YtkaeneplpelgeaaGreatDoorEvQ6
set_option linter.unusedVariables false
set_option linter.unusedSimpArgs false
namespace Go.Ev
open Go Go.RowKit
/-- Entries of a map, and those for which they stand. -/
def ERs (ω : Nat → Value) (μ : Mp) (a b : List MapEntry) : Prop := a.length = b.length ∧ ∀ (i : Nat) (e e' : MapEntry), a[i]? = some e → b[i]? = some e' → e.key = e'.key ∧ e.born = e'.born ∧ VR ω μ e.val e'.val
section ops
variable {P : Program} {ω : Nat → Value} {B : Nat} {W0 : World} {μ : Mp} {w : World} {s s' : St} {call : FuncId → List Value → E Value} {ρ ρ' : Operand → Value}
theorem ERs.tail {e e' : MapEntry} {a b : List MapEntry} (h : ERs ω μ (e :: a) (e' :: b)) : (e.key = e'.key ∧ e.born = e'.born ∧ VR ω μ e.val e'.val) ∧ ERs ω μ a b :=
  ⟨h.2 0 e e' rfl rfl, by have := h.1; simpa using this, fun i x y ex ey => h.2 (i + 1) x y (by simpa using ex) (by simpa using ey)⟩
theorem findNow_ok {kind : TypeDesc} {k : Value} : ∀ {a b : List MapEntry} {i : Nat} {r : Option (Nat × Value)}, ERs ω μ a b → Instr.findNow kind k a i = some r →
    ∃ r', Instr.findNow kind k b i = some r' ∧ (match r, r' with
      | none, none => True
      | some (j, v), some (j', v') => j = j' ∧ VR ω μ v v' ∧ i ≤ j ∧ j < i + a.length
      | _, _ => False) := by
  intro a
  induction a with
  | nil =>
    intro b i r hs h
    have : b = [] := List.length_eq_zero_iff.1 hs.1.symm
    subst this
    simp only [Instr.findNow, Option.some.injEq] at h
    subst h
    exact ⟨none, rfl, trivial⟩
  | cons e a ih =>
    intro b i r hs h
    cases b with
    | nil => have := hs.1; simp at this
    | cons e' b =>
      obtain ⟨⟨h1, h2, h3⟩, h4⟩ := hs.tail
      simp only [Instr.findNow] at h ⊢
      rw [← h1]
      cases hn : Instr.sameNow kind k e.key with
      | none => rw [hn] at h; cases h
      | some t =>
        rw [hn] at h
        cases t with
        | true =>
          simp only [Option.some.injEq] at h
          subst h
          exact ⟨_, rfl, rfl, h3, Nat.le_refl _, by simp⟩
        | false =>
          obtain ⟨r', hr, hm⟩ := ih h4 h
          refine ⟨r', hr, ?_⟩
          cases r <;> cases r' <;> first | exact hm | skip
          obtain ⟨m1, m2, m3, m4⟩ := hm
          exact ⟨m1, m2, by omega, by simp; omega⟩
theorem mapTypes_inv {t : TypeId} {kind : TypeDesc} {e : TypeId} (h : mapTypes? P t = some (kind, e)) : ∃ key, P.underlying t = some (.map key e) ∧ P.underlying key = some kind ∧ keyKind kind = true := by
  unfold mapTypes? at h
  split at h
  · rename_i key e' hu
    cases hk : P.underlying key with
    | none => rw [hk] at h; cases h
    | some d =>
      rw [hk] at h
      have h' : (bif keyKind d then some (d, e') else none) = some (kind, e) := h
      cases hb : keyKind d with
      | false => rw [hb] at h'; cases h'
      | true => rw [hb] at h'; cases h'; exact ⟨key, hu, hk, hb⟩
  · cases h
theorem checkKey_run {key : TypeId} {kind : TypeDesc} {k : Value} (b : Bool) (hu : P.underlying key = some kind) (hk : keyKind kind = true) (hv : keyVal k = true) : (Instr.checkKey b 10000 key k).run P w = .ok () w := by
  rw [show (10000 : Nat) = 9999 + 1 from rfl, Instr.checkKey]
  rw [Sem.run_bind, run_und w hu, Result.andThen_ok]
  cases kind <;> cases k <;> first | rfl | (simp [keyKind] at hk; done) | (simp [keyVal] at hv; done)
theorem findKey_run {key : TypeId} {kind : TypeDesc} {k : Value} {es : List MapEntry} {r : Option (Nat × Value)} (hu : P.underlying key = some kind) (h : Instr.findNow kind k es 0 = some r) : (Instr.findKey key k es).run P w = .ok r w := by
  unfold Instr.findKey
  rw [Sem.run_bind, run_und w hu, Result.andThen_ok, h]
  rfl
theorem found_inv {kind : TypeDesc} {k : Value} {es : List MapEntry} {r : Option (Nat × Value)} (h : (bif keyVal k then Instr.findNow kind k es 0 else none) = some r) : keyVal k = true ∧ Instr.findNow kind k es 0 = some r := by
  cases hb : keyVal k with
  | false => rw [hb] at h; cases h
  | true => rw [hb] at h; exact ⟨rfl, h⟩
theorem keyVal_flat {k : Value} (h : keyVal k = true) : flat k = true := by unfold keyVal at h; split at h <;> first | rfl | cases h
theorem Rel.map (hR : Rel ω B W0 μ s.heap w) {x : Nat} {es : List MapEntry} {k : Nat} (hx : s.heap.get x = some (.map es k)) : ∃ l es', μ x = some l ∧ w.heap[l.blk]? = some (.map es' k) ∧ ERs ω μ es es'.toList := by
  obtain ⟨l, hl, es', h1, h2, h3⟩ := hR.obj x _ hx (by simp)
  exact ⟨l, es', hl, h1, by simpa using h2, fun i e e' h4 h5 => h3 i e e' h4 (by simpa using h5)⟩
theorem run_getMap {r : Nat} {es : Array MapEntry} {k : Nat} (h : w.heap[r]? = some (.map es k)) : (getObj r).run P w = .ok (.map es k) w := by
  simp only [getObj, Sem.run, h]
theorem entries_ok {m m' : Value} {es : List MapEntry} (h : entries m s = some (es, s')) (hm : VR ω μ m m') (hR : Rel ω B W0 μ s.heap w) :
    s' = s ∧ ∃ es' : Array MapEntry, ERs ω μ es es'.toList ∧ ((m' = .map none ∧ es' = #[]) ∨ ∃ r k, m' = .map (some r) ∧ w.heap[r]? = some (.map es' k)) := by
  unfold entries at h
  obtain ⟨mm, hmm, hh⟩ := app h
  clear h
  split at hmm <;> subst hmm
  · obtain ⟨rfl, rfl⟩ := pure_inv hh
    cases hm
    exact ⟨rfl, #[], ⟨rfl, fun i e e' h => by simp at h⟩, .inl ⟨rfl, rfl⟩⟩
  · obtain ⟨p, s1, h1, h2⟩ := bind_inv hh
    obtain ⟨rfl, hmk, hg⟩ := rdMap_inv h1
    obtain ⟨rfl, rfl⟩ := pure_inv h2
    obtain ⟨l, es', hl, hb, hers⟩ := hR.map hg
    cases hm with
    | map x l' hl' =>
      have e0 : l' = l := by rw [hl'] at hl; cases hl; rfl
      subst e0
      exact ⟨rfl, es', hers, .inr ⟨l'.blk, p.2, rfl, hb⟩⟩
  · cases hh
theorem armLookup_ok {t : TypeId} {m k : Operand} {ok : Bool} {v : Value} (h : armLookup t m k ok P call ρ s = some (v, s')) (hρ : ∀ x, VR ω μ (ρ x) (ρ' x)) (hR : Rel ω B W0 μ s.heap w) :
    Gives P (Instr.lookup t (ρ' m) (ρ' k) ok) w (Post ω B W0 μ s s' v) := by
  unfold armLookup at h
  obtain ⟨⟨kind, e⟩, s1, h1, h2⟩ := bind_inv h
  obtain ⟨hmt, rfl⟩ := opt_inv h1
  dsimp only at h2
  obtain ⟨es, s2, h3, h4⟩ := bind_inv h2
  obtain ⟨rfl, es', hers, hes⟩ := entries_ok h3 (hρ m) hR
  obtain ⟨found, s3, h5, h6⟩ := bind_inv h4
  obtain ⟨hf, rfl⟩ := opt_inv h5
  obtain ⟨hkv, hfn⟩ := found_inv hf
  obtain ⟨key, hu1, hu2, hkk⟩ := mapTypes_inv hmt
  have hk := VR.flat (keyVal_flat hkv) (hρ k)
  obtain ⟨r', hr', hrel⟩ := findNow_ok hers hfn
  have hrun : ∀ (v1 : Value) (b : Bool), (match r' with | some (_, v) => v1 = v ∧ b = true | none => zero? P e = some v1 ∧ b = false) →
      (Instr.lookup t (ρ' m) (ρ' k) ok).run P w = .ok (if ok then .tuple #[v1, .bool b] else v1) w := by
    intro v1 b hvb
    have hck : ∀ b, (Instr.checkKey b 10000 key (ρ k)).run P w = .ok () w := fun b => checkKey_run b hu2 hkk hkv
    have hfk := findKey_run (w := w) hu2 hr'
    unfold Instr.lookup
    rw [Sem.run_bind, run_und w hu1, Result.andThen_ok, hk]
    rcases hes with ⟨e1, rfl⟩ | ⟨r, kk, e1, hb⟩
    · rw [e1]
      simp only [Sem.run_bind, Sem.run_pure, Result.andThen_ok, hck]
      rw [hfk, Result.andThen_ok]
      cases r' with
      | none => obtain ⟨h1, rfl⟩ := hvb; simp [run_zero w h1]
      | some p => obtain ⟨j, v2⟩ := p; obtain ⟨rfl, rfl⟩ := hvb; simp
    · rw [e1]
      simp only [Sem.run_bind, Sem.run_pure, Result.andThen_ok, hck, run_getMap hb]
      rw [hfk, Result.andThen_ok]
      cases r' with
      | none => obtain ⟨h1, rfl⟩ := hvb; simp [run_zero w h1]
      | some p => obtain ⟨j, v2⟩ := p; obtain ⟨rfl, rfl⟩ := hvb; simp
  obtain ⟨mm, hmm, hh⟩ := app h6
  clear h6
  split at hmm <;> subst hmm
  · rename_i j v0
    obtain ⟨rfl, rfl⟩ := pure_inv hh
    cases r' with
    | none => exact hrel.elim
    | some p =>
      obtain ⟨j', v'⟩ := p
      refine Gives.of_run (hrun v' true ⟨rfl, rfl⟩) (Post.same hR ?_)
      cases ok
      · exact hrel.2.1
      · exact VR.tuple_of (VRs.cons hrel.2.1 (VRs.cons (.bool true) VRs.nil))
  · obtain ⟨v0, s4, h7, h8⟩ := bind_inv hh
    obtain ⟨hz, rfl⟩ := opt_inv h7
    obtain ⟨hfl, h9⟩ := guard_inv' h8
    obtain ⟨rfl, rfl⟩ := pure_inv h9
    cases r' with
    | some p => exact hrel.elim
    | none =>
      refine Gives.of_run (hrun v0 false ⟨hz, rfl⟩) (Post.same hR ?_)
      cases ok
      · exact VR.refl_flatC hfl
      · exact VR.tuple_of (VRs.cons (VR.refl_flatC hfl) (VRs.cons (.bool false) VRs.nil))
end ops
end Go.Ev
