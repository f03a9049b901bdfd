/- PART EvG1 of a proof by an evaluator of the model that is proved sound. -/
import Derived.Test.YtkaeneplpelgeaaGreatDoorEvG
set_option linter.unusedVariables false
set_option linter.unusedSimpArgs false
namespace Go.Ev
open Go Go.RowKit
section facts
variable {P : Program} {call : FuncId → List Value → E Value} {n : Nat}
theorem DStep.inv {all : List Oper} {o : Oper} {b : Nat} {done : List Done} {r r' : Regs} {s s' : St} {d : Done} (h : DStep P call n all o b done r s r' s' d) :
    (wanted all o r = some false ∧ putR n r o.dst undef = some r' ∧ s' = s ∧ d = ⟨0, 0, [], some [], .none⟩) ∨
    ∃ v s1 deny, wanted all o r = some true ∧ (opIds o.op (ev r) = some [] ∨ denyOf b 0 done = some deny) ∧ s.mask.only = none ∧
      armOf o.op P call (ev r) { heap := s.heap, next := s.next, low := s.next, mask := ⟨deny ++ s.mask.deny, opIds o.op (ev r)⟩ } = some (v, s1) ∧
      unseen b (wroteOf s1.low s.next (opIds o.op (ev r))) 0 done = true ∧ putR n r o.dst v = some r' ∧
      s' = { heap := s1.heap, next := s1.next, low := Nat.min s.low s1.low, mask := s.mask } ∧ d = ⟨s.next, s1.next, deny, opIds o.op (ev r), wroteOf s1.low s.next (opIds o.op (ev r))⟩ := by
  cases h with
  | skip h1 h2 => exact .inl ⟨h1, h2, rfl, rfl⟩
  | run v s1 deny h1 h2 h3 h4 h5 h6 => exact .inr ⟨v, s1, deny, h1, h2, h3, h4, h5, h6, rfl, rfl⟩
/-- Is operation i ahead of operation k by its name? -/
def bit (ops : Array Oper) (i k : Nat) : Bool := ((Region.before ops).getD k 0).testBit i
structure Seq (P : Program) (call : FuncId → List Value → E Value) (n : Nat) (ops : Array Oper) (R : Nat → Regs) (σ : Nat → St) (D : Nat → Done) : Prop where
  step : ∀ k o, ops[k]? = some o → DStep P call n ops.toList o ((Region.before ops).getD k 0) ((List.range k).map D) (R k) (σ k) (R (k + 1)) (σ (k + 1)) (D k)
  pairs : ∀ i k oi ok, i < k → ops[i]? = some oi → ops[k]? = some ok → bit ops i k = false → oi.apart ops ok = true
  edges : ∀ k o, ops[k]? = some o → ∀ e ∈ o.after.toList, Region.binds .any e = true → e.on < k
  bd0 : Bd (σ 0)
  fr : ∀ f as, Fr (call f as)
def vis (σ : Nat → St) (D : Nat → Done) (k x : Nat) : Prop := masked ⟨(D k).deny ++ (σ 0).mask.deny, (D k).only⟩ x = false
def rng (σ : Nat → St) (k x : Nat) : Prop := (σ k).next ≤ x ∧ x < (σ (k + 1)).next
def wrt (σ : Nat → St) (D : Nat → Done) (k x : Nat) : Prop := ((D k).wrote ≠ .none ∧ ∀ lo up, (D k).wrote = .all lo up → lo ≤ x ∧ x < up) ∧ vis σ D k x ∧ x < (σ k).next
def touches (σ : Nat → St) (D : Nat → Done) (k x : Nat) : Prop := rng σ k x ∨ wrt σ D k x
variable {ops : Array Oper} {R : Nat → Regs} {σ : Nat → St} {D : Nat → Done}
theorem wroteOf_low {lo up x : Nat} {only : Option (List Nat)} (h1 : lo ≤ x) (h2 : x < up) : wroteOf lo up only ≠ .none ∧ ∀ l u, wroteOf lo up only = .all l u → l ≤ x ∧ x < u := by
  unfold wroteOf
  rw [Nat.ble_eq_true_of_le (show Nat.succ lo ≤ up by omega)]
  cases only with
  | none => exact ⟨by simp, fun l u e => by simp at e; omega⟩
  | some l' => exact ⟨by simp, fun l u e => by simp at e⟩
theorem Seq.has (k : Nat) (h : k < ops.size) : ∃ o, ops[k]? = some o := ⟨ops[k], by simp [h]⟩
/-- What one operation leaves as it was. -/
theorem Seq.one (h : Seq P call n ops R σ D) {k : Nat} (hk : k < ops.size) (hm : (σ k).mask = (σ 0).mask) (hb : Bd (σ k)) :
    (σ (k + 1)).mask = (σ k).mask ∧ (σ k).next ≤ (σ (k + 1)).next ∧ Bd (σ (k + 1)) ∧ (∀ x, ¬ touches σ D k x → (σ (k + 1)).heap.get x = (σ k).heap.get x) := by
  obtain ⟨o, ho⟩ := Seq.has k hk
  rcases (h.step k o ho).inv with ⟨h1, h2, h3, h4⟩ | ⟨v, s1, deny, h1, h2, h3, h4, h5, h6, h7, h8⟩
  · rw [h3]; exact ⟨rfl, Nat.le_refl _, hb, fun x _ => rfl⟩
  · have st := (Fr.armOf o.op h.fr).step _ _ _ h4
    have e1 : (σ (k + 1)).heap = s1.heap := by rw [h7]
    have e2 : (σ (k + 1)).next = s1.next := by rw [h7]
    have e3 : (σ (k + 1)).mask = (σ k).mask := by rw [h7]
    have hn : (σ k).next ≤ s1.next := st.next
    have keeps : ∀ x, ¬ touches σ D k x → (σ (k + 1)).heap.get x = (σ k).heap.get x := by
      intro x hx
      rw [e1]
      have hr : ¬ rng σ k x := fun c => hx (.inl c)
      refine st.keeps x (by rw [← e2]; exact hr) ?_
      by_cases hv : masked ⟨deny ++ (σ k).mask.deny, opIds o.op (ev (R k))⟩ x = true
      · exact .inl hv
      · by_cases hx0 : (σ k).heap.get x = none
        · exact .inr (.inl hx0)
        · obtain ⟨p, hp⟩ := Option.ne_none_iff_exists'.1 hx0
          by_cases hlt : x < (σ k).next
          · right; right
            have hw : ¬ wrt σ D k x := fun c => hx (.inr c)
            have hvx : vis σ D k x := by
              unfold vis
              rw [h8, ← hm]
              simpa using hv
            refine Decidable.byContradiction fun hlo => hw ⟨?_, hvx, hlt⟩
            rw [h8]
            exact wroteOf_low (by omega) hlt
          · exfalso
            have := hb x p (by omega) hp
            apply hv
            unfold masked at this ⊢
            rw [h3] at this
            rw [denied_append]
            simp only [Bool.or_false] at this
            rw [this]; simp
    refine ⟨e3, by rw [e2]; exact hn, ?_, keeps⟩
    intro x p hx hp
    rw [e3]
    by_cases ht : touches σ D k x
    · rcases ht with ht | ht
      · exact absurd ht.2 (by omega)
      · exact absurd ht.2.2 (by rw [e2] at hx; omega)
    · rw [keeps x ht] at hp
      exact hb x p (by rw [e2] at hx; omega) hp
theorem Seq.all (h : Seq P call n ops R σ D) : ∀ k, k ≤ ops.size → (σ k).mask = (σ 0).mask ∧ Bd (σ k) ∧ ∀ i, i ≤ k → (σ i).next ≤ (σ k).next := by
  intro k
  induction k with
  | zero => intro _; exact ⟨rfl, h.bd0, fun i hi => by have : i = 0 := by omega
                                                       rw [this]; exact Nat.le_refl _⟩
  | succ k ih =>
    intro hk
    obtain ⟨h1, h2, h3⟩ := ih (by omega)
    obtain ⟨a, b, c, d⟩ := h.one (by omega) h1 h2
    refine ⟨a.trans h1, c, fun i hi => ?_⟩
    by_cases e : i = k + 1
    · rw [e]; exact Nat.le_refl _
    · exact Nat.le_trans (h3 i (by omega)) b
theorem Seq.mask (h : Seq P call n ops R σ D) {k : Nat} (hk : k ≤ ops.size) : (σ k).mask = (σ 0).mask := (h.all k hk).1
theorem Seq.bd (h : Seq P call n ops R σ D) {k : Nat} (hk : k ≤ ops.size) : Bd (σ k) := (h.all k hk).2.1
theorem Seq.next (h : Seq P call n ops R σ D) {i k : Nat} (hi : i ≤ k) (hk : k ≤ ops.size) : (σ i).next ≤ (σ k).next := (h.all k hk).2.2 i hi
theorem Seq.k1 (h : Seq P call n ops R σ D) {k x : Nat} (hk : k < ops.size) (hx : ¬ touches σ D k x) : (σ (k + 1)).heap.get x = (σ k).heap.get x :=
  (h.one hk (h.mask (by omega)) (h.bd (by omega))).2.2.2 x hx
/-- An object that no operation from i to k touches. -/
theorem Seq.same (h : Seq P call n ops R σ D) {i x : Nat} : ∀ k, i ≤ k → k ≤ ops.size → (∀ j, i ≤ j → j < k → ¬ touches σ D j x) → (σ k).heap.get x = (σ i).heap.get x := by
  intro k
  induction k with
  | zero => intro hi _ _; have : i = 0 := by omega
            rw [this]
  | succ k ih =>
    intro hi hk ht
    by_cases e : i = k + 1
    · rw [e]
    · rw [h.k1 (by omega) (ht k (by omega) (by omega))]
      exact ih (by omega) (by omega) fun j h1 h2 => ht j h1 (by omega)
theorem range_get {D : Nat → Done} {i k : Nat} (h : i < k) : ((List.range k).map D)[i]? = some (D i) := by simp [h]
theorem masked_more {a b : List (Nat × Nat)} {m : Option (List Nat)} {x : Nat} (h : masked ⟨a, m⟩ x = true) : masked ⟨a ++ b, m⟩ x = true := by
  unfold masked at *
  dsimp only at *
  rw [denied_append]
  rw [Bool.or_eq_true] at h ⊢
  rcases h with h | h
  · left; rw [h]; rfl
  · exact .inr h
/-- What an earlier operation that a later one does not follow touches, the later one does not see. -/
theorem Seq.k2 (h : Seq P call n ops R σ D) {i k x : Nat} (hik : i < k) (hk : k < ops.size) (hb : bit ops i k = false) (ht : touches σ D i x) : ¬ vis σ D k x := by
  obtain ⟨o, ho⟩ := Seq.has k hk
  intro hv
  unfold vis at hv
  rcases (h.step k o ho).inv with ⟨h1, h2, h3, h4⟩ | ⟨v, s1, deny, h1, h2, h3, h4, h5, h6, h7, h8⟩
  · rw [h4] at hv
    have := (masked_false.1 hv).2 [] rfl
    cases this
  · rw [h8] at hv
    have hv' := masked_false.1 hv
    dsimp only at hv'
    rcases h2 with h2 | h2
    · have := hv'.2 [] h2
      cases this
    · obtain ⟨g1, g2, g3⟩ := denyOf_spec _ _ 0 _ h2 i (D i) (range_get hik) (by rw [Nat.zero_add]; exact hb)
      have hden : denied deny x = true := by
        rcases ht with ht | ht
        · -- a new one
          obtain ⟨oi, hoi⟩ := Seq.has (ops := ops) i (by omega)
          rcases (h.step i oi hoi).inv with ⟨q1, q2, q3, q4⟩ | ⟨v', s1', deny', q1, q2, q3, q4, q5, q6, q7, q8⟩
          · unfold rng at ht; rw [q3] at ht; omega
          · refine g1 x ?_ ?_
            · rw [q8]; exact ht.1
            · rw [q8]; have := ht.2; rw [q7] at this; exact this
        · obtain ⟨t1, t2, t3⟩ := ht
          cases hwi : (D i).wrote with
          | none => exact absurd hwi t1.1
          | all lo up => exact g3 lo up hwi x (t1.2 lo up hwi).1 (t1.2 lo up hwi).2
          | some l' =>
            refine g2 l' hwi x ?_
            -- it sees its own objects alone
            obtain ⟨oi, hoi⟩ := Seq.has (ops := ops) i (by omega)
            rcases (h.step i oi hoi).inv with ⟨q1, q2, q3, q4⟩ | ⟨v', s1', deny', q1, q2, q3, q4, q5, q6, q7, q8⟩
            · rw [q4] at hwi; cases hwi
            · rw [q8] at hwi
              unfold vis at t2
              rw [q8] at t2
              have t2' := (masked_false.1 t2).2
              dsimp only at hwi t2'
              unfold wroteOf at hwi
              cases hb1 : Nat.ble (Nat.succ s1'.low) (σ i).next with
              | false => rw [hb1] at hwi; cases hwi
              | true =>
                rw [hb1] at hwi
                cases ho1 : opIds oi.op (ev (R i)) with
                | none => rw [ho1] at hwi; cases hwi
                | some l2 =>
                  rw [ho1] at hwi
                  cases hwi
                  exact among_mem (t2' _ ho1)
      have := hv'.1
      rw [denied_append, hden] at this
      cases this
/-- What a later operation writes, an earlier one that it does not follow has not seen. -/
theorem Seq.k3 (h : Seq P call n ops R σ D) {i k x : Nat} (hik : i < k) (hk : k < ops.size) (hb : bit ops i k = false) (hw : wrt σ D k x) : ¬ vis σ D i x := by
  obtain ⟨o, ho⟩ := Seq.has k hk
  obtain ⟨t1, t2, t3⟩ := hw
  intro hv
  rcases (h.step k o ho).inv with ⟨h1, h2, h3, h4⟩ | ⟨v, s1, deny, h1, h2, h3, h4, h5, h6, h7, h8⟩
  · rw [h4] at t1; exact t1.1 rfl
  · obtain ⟨g1, g2⟩ := unseen_spec _ _ _ 0 h5 i (D i) (range_get hik) (by rw [Nat.zero_add]; exact hb)
    rw [h8] at t1
    unfold vis at t2 hv
    rw [h8] at t2
    have t2' := (masked_false.1 t2).2
    dsimp only at t1 t2'
    cases hb1 : Nat.ble (Nat.succ s1.low) (σ k).next with
    | false => unfold wroteOf at t1; rw [hb1] at t1; exact t1.1 rfl
    | true =>
      unfold wroteOf at g1 g2 t1
      rw [hb1] at g1 g2 t1
      cases ho1 : opIds o.op (ev (R k)) with
      | none =>
        rw [ho1] at g2 t1
        obtain ⟨b1, b2⟩ := t1.2 _ _ rfl
        have := masked_more (b := (σ 0).mask.deny) (g2 _ _ rfl x b1 b2)
        rw [this] at hv
        cases hv
      | some l2 =>
        rw [ho1] at g1
        have hx := among_mem (t2' _ ho1)
        have := masked_more (b := (σ 0).mask.deny) (g1 l2 rfl x hx)
        rw [this] at hv
        cases hv
end facts
end Go.Ev
