/- PART EvG2 of a proof by an evaluator of the model that is proved sound. -/
import Derived.Test.YtkaeneplpelgeaaGreatDoorEvG1
set_option linter.unusedVariables false
set_option linter.unusedSimpArgs false
namespace Go.Ev
open Go Go.RowKit
section inv
variable {P : Program} {call : FuncId → List Value → E Value} {n : Nat} {ω : Nat → Value} {B : Nat} {W0 : World} {ops : Array Oper} {R : Nat → Regs} {σ : Nat → St} {D : Nat → Done}
structure Inv (ω : Nat → Value) (B : Nat) (W0 : World) (n : Nat) (ops : Array Oper) (R : Nat → Regs) (σ : Nat → St) (D : Nat → Done) (S : Nat → Prop) (τ : T AObj) (μ0 μ : Mp) (w : World) (a : Act) : Prop where
  rel : Rel ω B W0 μ τ w
  ext : Ext μ0 μ (σ 0).next (σ ops.size).next
  heap : ∀ x b o, b ≤ ops.size → (∀ k, k < b → touches σ D k x → S k) → (∀ k, b ≤ k → k < ops.size → touches σ D k x → ¬ S k) → (x < (σ b).next ∨ (σ ops.size).next ≤ x) → (σ b).heap.get x = some o → τ.get x = some o
  new : ∀ k x, k < ops.size → ¬ S k → rng σ k x → τ.get x = none ∧ μ x = none
  size : a.tmps.size = n
  defers : a.defers = []
  regs : ∀ t b, b ≤ ops.size → (∀ k o, k < b → ops[k]? = some o → o.dst = some t → S k) → (∀ k o, b ≤ k → ops[k]? = some o → o.dst = some t → ¬ S k) → VR ω μ (getR (R b) t) (a.tmps.getD t undef)
  closed : ∀ i k, k < ops.size → S k → bit ops i k = true → S i
variable {S : Nat → Prop} {τ : T AObj} {μ0 μ : Mp} {w : World} {a : Act}
theorem lt_of_get {k : Nat} {o : Oper} (h : ops[k]? = some o) : k < ops.size := (Array.getElem?_eq_some_iff.1 h).1
theorem Inv.look (h : Inv ω B W0 n ops R σ D S τ μ0 μ w a) (hs : Seq P call n ops R σ D) {i : Nat} {oi : Oper} (hi : ops[i]? = some oi) (hn : ¬ S i) (hb : ∀ j, bit ops j i = true → S j) {t : Nat} (ht : t ∈ oi.looksAt ops) : VR ω μ (getR (R i) t) (a.tmps.getD t undef) := by
  have hlt := lt_of_get hi
  refine h.regs t i (by omega) (fun k o hk ho hd => ?_) (fun k o hk ho hd hS => ?_)
  · by_cases c : bit ops k i = true
    · exact hb k c
    · have := (Oper.apart_spec (hs.pairs k i o oi hk ho hi (by simpa using c))).1 t hd
      exact absurd ht this
  · by_cases e : i = k
    · subst e; exact hn hS
    · have hik : i < k := by omega
      by_cases c : bit ops i k = true
      · exact hn (h.closed i k (lt_of_get ho) hS c)
      · exact (Oper.apart_spec (hs.pairs i k oi o hik hi ho (by simpa using c))).2.2 t hd ht
theorem ev_ok' {r : Regs} {x : Operand} (h : ∀ t, x = .tmp t → VR ω μ (getR r t) (a.tmps.getD t undef)) (hg : ∀ g, g < 4096 → ∃ l, μ g = some l ∧ l.blk = g ∧ l.off = 0) : VR ω μ (ev r x) (a.eval x) := by
  cases x with
  | tmp t => exact h t rfl
  | const v =>
    show VR ω μ (bif flatC v then v else .chan none) v
    cases hf : flatC v with
    | true => exact VR.refl_flatC hf
    | false => exact .junk v
  | global g =>
    show VR ω μ (bif Nat.ble g 4095 then ptr g 0 else .chan none) (.pointer (some ⟨g, 0, none⟩))
    cases hb : Nat.ble g 4095 with
    | true =>
      obtain ⟨l, h1, h2, h3⟩ := hg g (by have := Nat.le_of_ble_eq_true hb; omega)
      have := VR.ptr (ω := ω) g 0 l h1
      rw [h2, h3] at this
      exact this
    | false => exact .junk _
  | func f => exact .func _ _ _ _ _ rfl rfl (fun i v v' e => by simp at e) (fun i v v' e => by simp at e)
theorem tmp_looks {o : Oper} {t : Nat} (h : Operand.tmp t ∈ o.op.operands) : t ∈ o.looksAt ops := by
  unfold Oper.looksAt
  refine List.mem_append_left _ (List.mem_filterMap.2 ⟨.tmp t, by simpa using h, rfl⟩)
theorem guard_looks {o : Oper} {j d : Nat} {want : Bool} (hg : o.guard = some (j, want)) (hd : (ops[j]?).bind (·.dst) = some d) : d ∈ o.looksAt ops := by
  unfold Oper.looksAt
  refine List.mem_append_right _ ?_
  rw [hg]
  dsimp only
  rw [hd]
  simp
/-- The registers behind one more operation. -/
theorem Inv.regs' (h : Inv ω B W0 n ops R σ D S τ μ0 μ w a) (hs : Seq P call n ops R σ D) {i : Nat} {oi : Oper} (hi : ops[i]? = some oi) (hn : ¬ S i) {μ' : Mp} (he : ∀ x l, μ x = some l → μ' x = some l)
    {v u : Value} (hp : putR n (R i) oi.dst v = some (R (i + 1))) (hR : ∀ k o, ops[k]? = some o → ∀ t, o.dst ≠ some t → getR (R (k + 1)) t = getR (R k) t) (hv : VR ω μ' v u) :
    (a.put oi.dst u).tmps.size = n ∧ (a.put oi.dst u).defers = [] ∧
    ∀ t b, b ≤ ops.size → (∀ k o, k < b → ops[k]? = some o → o.dst = some t → S k ∨ k = i) → (∀ k o, b ≤ k → ops[k]? = some o → o.dst = some t → ¬ (S k ∨ k = i)) → VR ω μ' (getR (R b) t) ((a.put oi.dst u).tmps.getD t undef) := by
  have hlt := lt_of_get hi
  have same : ∀ t k, i + 1 ≤ k → k ≤ ops.size → (∀ j o, i + 1 ≤ j → j < k → ops[j]? = some o → o.dst ≠ some t) → getR (R k) t = getR (R (i + 1)) t := by
    intro t k
    induction k with
    | zero => intro h1; omega
    | succ k ih =>
      intro h1 h2 h3
      by_cases e : i + 1 = k + 1
      · rw [e]
      · obtain ⟨o, ho⟩ := Seq.has (ops := ops) k (by omega)
        rw [hR k o ho t (h3 k o (by omega) (by omega) ho)]
        exact ih (by omega) (by omega) fun j o h1 h2 => h3 j o h1 (by omega)
  have old : ∀ t b, oi.dst ≠ some t → b ≤ ops.size → (∀ k o, k < b → ops[k]? = some o → o.dst = some t → S k ∨ k = i) → (∀ k o, b ≤ k → ops[k]? = some o → o.dst = some t → ¬ (S k ∨ k = i)) → VR ω μ' (getR (R b) t) (a.tmps.getD t undef) := by
    intro t b hne hb h1 h2
    refine (h.regs t b hb (fun k o hk ho hd => (h1 k o hk ho hd).resolve_right ?_) (fun k o hk ho hd hS => h2 k o hk ho hd (.inl hS))).ext he
    intro e
    subst e
    rw [hi] at ho
    cases ho
    exact hne hd
  cases hd : oi.dst with
  | none =>
    refine ⟨h.size, h.defers, fun t b hb h1 h2 => ?_⟩
    exact old t b (by rw [hd]; simp) hb h1 h2
  | some d =>
    rw [hd] at hp
    unfold putR at hp
    dsimp only at hp
    cases hbb : Nat.ble (Nat.succ d) n with
    | false => rw [hbb] at hp; cases hp
    | true =>
      rw [hbb] at hp
      have hp : some ((R i).set d v) = some (R (i + 1)) := hp
      simp only [Option.some.injEq] at hp
      have hdn : d < n := Nat.le_of_ble_eq_true hbb
      refine ⟨by simp [Act.put, h.size], h.defers, fun t b hb h1 h2 => ?_⟩
      simp only [Act.put, Array.getD_eq_getD_getElem?, Array.getElem?_setIfInBounds]
      by_cases e : d = t
      · subst e
        rw [if_pos rfl, if_pos (by rw [h.size]; exact hdn)]
        have hib : i < b := by
          by_cases c : i < b
          · exact c
          · exact absurd (.inr rfl) (h2 i oi (by omega) hi hd)
        rw [same d b (by omega) hb ?_, ← hp, getR_set, if_pos rfl]
        · exact hv
        · intro j o hj1 hj2 hjo hjd
          have hSj := (h1 j o hj2 hjo hjd).resolve_right (by omega)
          by_cases c : bit ops i j = true
          · exact hn (h.closed i j (by omega) hSj c)
          · exact (Oper.apart_spec (hs.pairs i j oi o (by omega) hi hjo (by simpa using c))).2.1 d hd hjd
      · rw [if_neg e]
        have := old t b (by rw [hd]; simpa using e) hb h1 h2
        rwa [Array.getD_eq_getD_getElem?] at this
theorem Seq.keepR (hs : Seq P call n ops R σ D) (k : Nat) (o : Oper) (ho : ops[k]? = some o) (t : Nat) (hne : o.dst ≠ some t) : getR (R (k + 1)) t = getR (R k) t := by
  have hput : ∀ v, putR n (R k) o.dst v = some (R (k + 1)) → getR (R (k + 1)) t = getR (R k) t := by
    intro v hp
    cases hd : o.dst with
    | none => rw [hd] at hp; have : some (R k) = some (R (k + 1)) := hp; simp only [Option.some.injEq] at this; rw [this]
    | some d =>
      rw [hd] at hp hne
      unfold putR at hp
      dsimp only at hp
      cases hbb : Nat.ble (Nat.succ d) n with
      | false => rw [hbb] at hp; cases hp
      | true =>
        rw [hbb] at hp
        have hp : some ((R k).set d v) = some (R (k + 1)) := hp
        simp only [Option.some.injEq] at hp
        rw [← hp, getR_set, if_neg (fun e => hne (by rw [e]))]
  rcases (hs.step k o ho).inv with ⟨h1, h2, h3, h4⟩ | ⟨v, s1, deny, h1, h2, h3, h4, h5, h6, h7, h8⟩
  · exact hput _ h2
  · exact hput _ h6
end inv
end Go.Ev
