/- PART EvF of a proof by an evaluator of the model that is proved sound. -/
import Derived.Test.YtfcjpkigaagnaaaGreatDoorEvD
set_option linter.unusedVariables false
set_option linter.unusedSimpArgs false
namespace Go.Ev
open Go

section tree
variable {α : Type}
theorem T.get_leaf (i : Nat) : (T.leaf : T α).get i = none := rfl
theorem T.get_zero (l : T α) (v : Option α) (r : T α) : (T.node l v r).get 0 = v := rfl
theorem T.get_succ (l : T α) (v : Option α) (r : T α) (j : Nat) : (T.node l v r).get (j + 1) = if j % 2 = 0 then l.get (j / 2) else r.get (j / 2) := by
  have : (T.node l v r).get (j + 1) = Bool.rec (motive := fun _ => Option α) (r.get (j / 2)) (l.get (j / 2)) (Nat.beq (j % 2) 0) := rfl
  rw [this]
  by_cases h : j % 2 = 0
  · rw [if_pos h, h]; rfl
  · rw [if_neg h]
    have : Nat.beq (j % 2) 0 = false := by have h1 : j % 2 = 1 := by omega
                                           rw [h1]; rfl
    rw [this]
theorem T.setF_leaf_zero (f : Nat) (x : α) : T.setF (f + 1) .leaf 0 x = .node .leaf (some x) .leaf := rfl
theorem T.setF_node_zero (f : Nat) (l : T α) (v : Option α) (r : T α) (x : α) : T.setF (f + 1) (.node l v r) 0 x = .node l (some x) r := rfl
theorem T.setF_leaf_succ (f j : Nat) (x : α) : T.setF (f + 1) .leaf (j + 1) x = if j % 2 = 0 then .node (T.setF f .leaf (j / 2) x) none .leaf else .node .leaf none (T.setF f .leaf (j / 2) x) := by
  have : T.setF (f + 1) .leaf (j + 1) x = Bool.rec (motive := fun _ => T α) (.node .leaf none (T.setF f .leaf (j / 2) x)) (.node (T.setF f .leaf (j / 2) x) none .leaf) (Nat.beq (j % 2) 0) := rfl
  rw [this]
  by_cases h : j % 2 = 0
  · rw [if_pos h, h]; rfl
  · rw [if_neg h]
    have : Nat.beq (j % 2) 0 = false := by have h1 : j % 2 = 1 := by omega
                                           rw [h1]; rfl
    rw [this]
theorem T.setF_node_succ (f j : Nat) (l : T α) (v : Option α) (r : T α) (x : α) : T.setF (f + 1) (.node l v r) (j + 1) x = if j % 2 = 0 then .node (T.setF f l (j / 2) x) v r else .node l v (T.setF f r (j / 2) x) := by
  have : T.setF (f + 1) (.node l v r) (j + 1) x = Bool.rec (motive := fun _ => T α) (.node l v (T.setF f r (j / 2) x)) (.node (T.setF f l (j / 2) x) v r) (Nat.beq (j % 2) 0) := rfl
  rw [this]
  by_cases h : j % 2 = 0
  · rw [if_pos h, h]; rfl
  · rw [if_neg h]
    have : Nat.beq (j % 2) 0 = false := by have h1 : j % 2 = 1 := by omega
                                           rw [h1]; rfl
    rw [this]
theorem T.get_setF (f : Nat) : ∀ (t : T α) (i j : Nat) (x : α), i < f → (T.setF f t i x).get j = if j = i then some x else t.get j := by
  induction f with
  | zero => intro t i j x h; omega
  | succ f ih =>
    intro t i j x h
    cases i with
    | zero =>
      cases t with
      | leaf =>
        rw [setF_leaf_zero]
        cases j with
        | zero => simp [T.get_zero]
        | succ j => rw [T.get_succ]; simp [T.get_leaf]
      | node l v r =>
        rw [setF_node_zero]
        cases j with
        | zero => simp [T.get_zero]
        | succ j => rw [T.get_succ, T.get_succ]; simp
    | succ i =>
      have hi : i / 2 < f := by omega
      cases t with
      | leaf =>
        rw [setF_leaf_succ]
        cases j with
        | zero => split <;> simp [T.get_zero, T.get_leaf]
        | succ j =>
          by_cases hp : i % 2 = 0
          · rw [if_pos hp, T.get_succ]
            by_cases hj : j % 2 = 0
            · rw [if_pos hj, ih _ _ _ _ hi]
              by_cases e : j / 2 = i / 2
              · have : j = i := by omega
                simp [this]
              · have : ¬ j = i := by omega
                simp [e, this, T.get_leaf]
            · have : ¬ j = i := by omega
              simp [hj, this, T.get_leaf]
          · rw [if_neg hp, T.get_succ]
            by_cases hj : j % 2 = 0
            · have : ¬ j = i := by omega
              simp [hj, this, T.get_leaf]
            · rw [if_neg hj, ih _ _ _ _ hi]
              by_cases e : j / 2 = i / 2
              · have : j = i := by omega
                simp [this]
              · have : ¬ j = i := by omega
                simp [e, this, T.get_leaf]
      | node l v r =>
        rw [setF_node_succ]
        cases j with
        | zero => split <;> simp [T.get_zero]
        | succ j =>
          rw [T.get_succ]
          by_cases hp : i % 2 = 0
          · rw [if_pos hp, T.get_succ]
            by_cases hj : j % 2 = 0
            · rw [if_pos hj, if_pos hj, ih _ _ _ _ hi]
              by_cases e : j / 2 = i / 2
              · have : j = i := by omega
                simp [this]
              · have : ¬ j = i := by omega
                simp [e, this]
            · have : ¬ j = i := by omega
              simp [hj, this]
          · rw [if_neg hp, T.get_succ]
            by_cases hj : j % 2 = 0
            · have : ¬ j = i := by omega
              simp [hj, this]
            · rw [if_neg hj, if_neg hj, ih _ _ _ _ hi]
              by_cases e : j / 2 = i / 2
              · have : j = i := by omega
                simp [this]
              · have : ¬ j = i := by omega
                simp [e, this]
theorem T.get_set (t : T α) (i j : Nat) (x : α) : (t.set i x).get j = if j = i then some x else t.get j := T.get_setF _ _ _ _ _ (Nat.lt_succ_self i)
theorem T.get_set_self (t : T α) (i : Nat) (x : α) : (t.set i x).get i = some x := by rw [T.get_set]; simp
theorem T.get_set_ne (t : T α) {i j : Nat} (x : α) (h : j ≠ i) : (t.set i x).get j = t.get j := by rw [T.get_set, if_neg h]
end tree

/-- What may be looked at. -/
def Mask.sees (m : Mask) (x : Nat) : Prop := masked m x = false

/-- What a computation over objects does, and that it does the same over other objects that agree with these where it looks. -/
structure Step {α : Type} (m : E α) (s : St) (a : α) (s' : St) : Prop where
  mask : s'.mask = s.mask
  next : s.next ≤ s'.next
  low : s'.low ≤ s.low
  grows : ∀ x o, s.heap.get x = some o → ∃ o', s'.heap.get x = some o'
  keeps : ∀ x, ¬ (s.next ≤ x ∧ x < s'.next) → (masked s.mask x = true ∨ s.heap.get x = none ∨ x < s'.low) → s'.heap.get x = s.heap.get x
  rerun : ∀ (H2 : T AObj) (M2 : Mask), M2.only = s.mask.only →
    (∀ x, masked s.mask x = false → (s.heap.get x ≠ none ∨ (s.next ≤ x ∧ x < s'.next)) → masked M2 x = false) →
    (∀ x o, masked s.mask x = false → s.heap.get x = some o → H2.get x = some o) → (∀ x, s.next ≤ x → x < s'.next → H2.get x = none) →
    ∃ H2', m { heap := H2, next := s.next, low := s.low, mask := M2 } = some (a, { heap := H2', next := s'.next, low := s'.low, mask := M2 }) ∧
      (∀ x o, (masked s.mask x = false ∨ (s.next ≤ x ∧ x < s'.next)) → s'.heap.get x = some o → H2'.get x = some o) ∧
      (∀ x, ¬ (s.next ≤ x ∧ x < s'.next) → (masked s.mask x = true ∨ s.heap.get x = none ∨ x < s'.low) → H2'.get x = H2.get x)
structure Fr {α : Type} (m : E α) : Prop where
  step : ∀ s a s', m s = some (a, s') → Step m s a s'

theorem St.eta (s : St) : ({ heap := s.heap, next := s.next, low := s.low, mask := s.mask } : St) = s := rfl

theorem Fr.const {α : Type} (o : Option α) : Fr (fun s => o.map (·, s) : E α) := by
  refine ⟨fun s a s' h => ?_⟩
  cases o with
  | none => simp at h
  | some b =>
    simp only [Option.map_some, Option.some.injEq, Prod.mk.injEq] at h
    obtain ⟨rfl, rfl⟩ := h
    refine ⟨rfl, Nat.le_refl _, Nat.le_refl _, fun x o h => ⟨o, h⟩, fun x _ _ => rfl, fun H2 M2 ho2 hm2 hag hn => ⟨H2, rfl, ?_, fun _ _ _ => rfl⟩⟩
    intro x o hx hg
    rcases hx with hx | hx
    · exact hag x o hx hg
    · omega
theorem Fr.pure {α : Type} (a : α) : Fr (pure a : E α) := Fr.const (some a)
theorem Fr.ret {α : Type} (a : α) : Fr (fun s => some (a, s) : E α) := Fr.const (.some a)
theorem Fr.fail {α : Type} : Fr (Go.Ev.fail : E α) := ⟨fun s a s' h => absurd h (by simp [Go.Ev.fail])⟩
theorem Fr.no {α : Type} : Fr (fun _ => none : E α) := ⟨fun s a s' h => absurd h (by simp)⟩
theorem Fr.opt {α : Type} (o : Option α) : Fr (Go.Ev.opt o) := by
  cases o with
  | none => exact Fr.no
  | some a => exact Fr.ret a

theorem Fr.bind {α β : Type} {m : E α} {f : α → E β} (hm : Fr m) (hf : ∀ a, Fr (f a)) : Fr (m >>= f) := by
  refine ⟨fun s b s2 h => ?_⟩
  have h' : (match m s with | none => none | some (a, s) => f a s) = some (b, s2) := h
  cases hms : m s with
  | none => rw [hms] at h'; cases h'
  | some p =>
    obtain ⟨a, s1⟩ := p
    rw [hms] at h'
    have h1 := hm.step s a s1 hms
    have h2 := (hf a).step s1 b s2 h'
    refine ⟨h2.mask.trans h1.mask, Nat.le_trans h1.next h2.next, Nat.le_trans h2.low h1.low, ?_, ?_, ?_⟩
    · intro x o hx
      obtain ⟨o1, ho1⟩ := h1.grows x o hx
      exact h2.grows x o1 ho1
    · intro x hx hor
      have n1 := h1.next; have n2 := h2.next
      have e1 : s1.heap.get x = s.heap.get x := h1.keeps x (by omega) (by
        rcases hor with h | h | h
        · exact .inl h
        · exact .inr (.inl h)
        · exact .inr (.inr (Nat.lt_of_lt_of_le h h2.low)))
      rw [h2.keeps x (by omega) (by rw [h1.mask, e1]; exact hor), e1]
    · intro H2 M2 ho2 hm2 hag hn
      have n1 := h1.next; have n2 := h2.next
      obtain ⟨H3, hr1, ha1, hk1⟩ := h1.rerun H2 M2 ho2 (fun x hx hor => hm2 x hx (hor.imp id (fun h => ⟨h.1, by omega⟩))) hag (fun x a b => hn x a (by omega))
      have hn3 : ∀ x, s1.next ≤ x → x < s2.next → H3.get x = none := by
        intro x hx1 hx2
        by_cases hsx : s.heap.get x = none
        · rw [hk1 x (by omega) (.inr (.inl hsx))]; exact hn x (by omega) hx2
        · by_cases hmx : masked s.mask x = true
          · rw [hk1 x (by omega) (.inl hmx)]; exact hn x (by omega) hx2
          · obtain ⟨o, ho⟩ := Option.ne_none_iff_exists'.1 hsx
            have := hag x o (by simpa using hmx) ho
            rw [hn x (by omega) hx2] at this
            cases this
      obtain ⟨H4, hr2, ha2, hk2⟩ := h2.rerun H3 M2 (ho2.trans (by rw [h1.mask])) (fun x hx hor => by
        rw [h1.mask] at hx
        refine hm2 x hx ?_
        rcases hor with hor | hor
        · by_cases hsx : s.heap.get x = none
          · by_cases hrg : s.next ≤ x ∧ x < s1.next
            · exact .inr ⟨hrg.1, by omega⟩
            · rw [h1.keeps x hrg (.inr (.inl hsx))] at hor; exact absurd hsx hor
          · exact .inl hsx
        · exact .inr ⟨by omega, hor.2⟩) (fun x o hx ho => ha1 x o (.inl (by rw [h1.mask] at hx; exact hx)) ho) hn3
      refine ⟨H4, ?_, ?_, ?_⟩
      · show (match m { heap := H2, next := s.next, low := s.low, mask := M2 } with | none => none | some (a, s) => f a s) = _
        rw [hr1]
        exact hr2
      · intro x o hx ho
        rcases hx with hx | hx
        · exact ha2 x o (.inl (by rw [h1.mask]; exact hx)) ho
        · by_cases hx2 : s1.next ≤ x
          · exact ha2 x o (.inr ⟨hx2, hx.2⟩) ho
          · by_cases hmx : masked s.mask x = true
            · have hm1 : masked s1.mask x = true := by rw [h1.mask]; exact hmx
              rw [h2.keeps x (by omega) (.inl hm1)] at ho
              rw [hk2 x (by omega) (.inl hm1)]
              exact ha1 x o (.inr ⟨hx.1, by omega⟩) ho
            · exact ha2 x o (.inl (by rw [h1.mask]; simpa using hmx)) ho
      · intro x hx hor
        have e1 : s1.heap.get x = s.heap.get x := h1.keeps x (by omega) (by
          rcases hor with h | h | h
          · exact .inl h
          · exact .inr (.inl h)
          · exact .inr (.inr (Nat.lt_of_lt_of_le h h2.low)))
        rw [hk2 x (by omega) (by rw [h1.mask, e1]; exact hor)]
        exact hk1 x (by omega) (by
          rcases hor with h | h | h
          · exact .inl h
          · exact .inr (.inl h)
          · exact .inr (.inr (Nat.lt_of_lt_of_le h h2.low)))

theorem rd_eq {x : Nat} {s : St} {o : AObj} {s' : St} (h : rd x s = some (o, s')) : s' = s ∧ masked s.mask x = false ∧ s.heap.get x = some o ∧ o ≠ .dead := by
  unfold rd at h
  cases hm : masked s.mask x with
  | true => rw [hm] at h; cases h
  | false =>
    rw [hm] at h
    cases hg : s.heap.get x with
    | none => rw [hg] at h; cases h
    | some o' =>
      rw [hg] at h
      cases o' <;> simp at h <;> (obtain ⟨rfl, rfl⟩ := h; exact ⟨rfl, rfl, rfl, by simp⟩)
theorem rd_ok {x : Nat} {s : St} {o : AObj} (hm : masked s.mask x = false) (hg : s.heap.get x = some o) (hd : o ≠ .dead) : rd x s = some (o, s) := by
  unfold rd
  rw [hm, hg]
  cases o <;> first | rfl | exact absurd rfl hd
theorem Fr.rd (x : Nat) : Fr (Go.Ev.rd x) := by
  refine ⟨fun s o s' h => ?_⟩
  obtain ⟨rfl, hm, hg, hd⟩ := rd_eq h
  refine ⟨rfl, Nat.le_refl _, Nat.le_refl _, fun x o h => ⟨o, h⟩, fun x _ _ => rfl, fun H2 M2 ho2 hm2 hag hn => ⟨H2, ?_, ?_, fun _ _ _ => rfl⟩⟩
  · exact rd_ok (s := { heap := H2, next := s'.next, low := s'.low, mask := M2 }) (hm2 x hm (.inl (by rw [hg]; simp))) (hag x o hm hg) hd
  · intro y o' hy ho
    rcases hy with hy | hy
    · exact hag y o' hy ho
    · omega
theorem wr_eq {x : Nat} {o : AObj} {s s' : St} {u : Unit} (h : wr x o s = some (u, s')) :
    s' = { heap := s.heap.set x o, next := s.next, low := Nat.min s.low x, mask := s.mask } ∧ 4096 ≤ x ∧ masked s.mask x = false ∧ ∃ o', s.heap.get x = some o' ∧ o' ≠ .dead := by
  unfold wr at h
  cases hb : (Nat.ble x 4095 || masked s.mask x) with
  | true => rw [hb] at h; cases h
  | false =>
    rw [hb] at h
    have hb' : Nat.ble x 4095 = false ∧ masked s.mask x = false := by simpa using hb
    have hx : 4096 ≤ x := by
      have := hb'.1
      by_cases hc : x ≤ 4095
      · rw [Nat.ble_eq_true_of_le hc] at this; cases this
      · omega
    cases hg : s.heap.get x with
    | none => rw [hg] at h; cases h
    | some o' =>
      rw [hg] at h
      cases o' <;> simp at h <;> exact ⟨h.symm, hx, hb'.2, _, rfl, by simp⟩
theorem wr_ok {x : Nat} {o o' : AObj} {s : St} (h4 : 4096 ≤ x) (hm : masked s.mask x = false) (hg : s.heap.get x = some o') (hd : o' ≠ .dead) :
    wr x o s = some ((), { heap := s.heap.set x o, next := s.next, low := Nat.min s.low x, mask := s.mask }) := by
  unfold wr
  have : Nat.ble x 4095 = false := by
    cases hc : Nat.ble x 4095 with
    | false => rfl
    | true => have := Nat.le_of_ble_eq_true hc; omega
  rw [this, hm, hg]
  cases o' <;> first | rfl | exact absurd rfl hd
theorem Fr.wr (x : Nat) (o : AObj) : Fr (Go.Ev.wr x o) := by
  refine ⟨fun s u s' h => ?_⟩
  obtain ⟨rfl, h4, hm, o', hg, hd⟩ := wr_eq h
  refine ⟨rfl, Nat.le_refl _, Nat.min_le_left _ _, ?_, ?_, ?_⟩
  · intro y p hy
    by_cases e : y = x
    · exact ⟨o, by rw [e]; exact T.get_set_self _ _ _⟩
    · exact ⟨p, by rw [← hy]; exact T.get_set_ne _ _ e⟩
  · intro y hy hor
    by_cases e : y = x
    · subst e
      rcases hor with h | h | h
      · rw [hm] at h; cases h
      · rw [hg] at h; cases h
      · have : Nat.min s.low y ≤ y := Nat.min_le_right _ _
        exact absurd h (by simp only; omega)
    · exact T.get_set_ne _ _ e
  · intro H2 M2 ho2 hm2 hag hn
    refine ⟨H2.set x o, wr_ok (s := { heap := H2, next := s.next, low := s.low, mask := M2 }) h4 (hm2 x hm (.inl (by rw [hg]; simp))) (hag x o' hm hg) hd, ?_, ?_⟩
    · intro y p hy hp
      simp only at hp
      by_cases e : y = x
      · subst e; rw [T.get_set_self] at hp ⊢; exact hp
      · rw [T.get_set_ne _ _ e] at hp ⊢
        rcases hy with hy | hy
        · exact hag y p hy hp
        · simp only at hy; omega
    · intro y hy hor
      by_cases e : y = x
      · subst e
        rcases hor with h | h | h
        · rw [hm] at h; cases h
        · rw [hg] at h; cases h
        · have : Nat.min s.low y ≤ y := Nat.min_le_right _ _
          exact absurd h (by simp only; omega)
      · exact T.get_set_ne _ _ e
theorem Fr.nw (o : AObj) : Fr (Go.Ev.nw o) := by
  refine ⟨fun s n s' h => ?_⟩
  have h' : some (s.next, ({ heap := s.heap.set s.next o, next := Nat.succ s.next, low := s.low, mask := s.mask } : St)) = some (n, s') := h
  simp only [Option.some.injEq, Prod.mk.injEq] at h'
  obtain ⟨rfl, rfl⟩ := h'
  refine ⟨rfl, by simp, Nat.le_refl _, ?_, ?_, ?_⟩
  · intro y p hy
    by_cases e : y = s.next
    · exact ⟨o, by rw [e]; exact T.get_set_self _ _ _⟩
    · exact ⟨p, by rw [← hy]; exact T.get_set_ne _ _ e⟩
  · intro y hy hor
    exact T.get_set_ne _ _ (by simp only at hy; omega)
  · intro H2 M2 ho2 hm2 hag hn
    refine ⟨H2.set s.next o, rfl, ?_, ?_⟩
    · intro y p hy hp
      simp only at hp
      by_cases e : y = s.next
      · rw [e, T.get_set_self] at hp ⊢; exact hp
      · rw [T.get_set_ne _ _ e] at hp ⊢
        rcases hy with hy | hy
        · exact hag y p hy hp
        · simp only at hy; omega
    · intro y hy hor
      exact T.get_set_ne _ _ (by simp only at hy; omega)
/-- A tree holds no more than so many numbers. -/
theorem T.bound {α : Type} : ∀ t : T α, ∃ N, ∀ x, N ≤ x → t.get x = none
  | .leaf => ⟨0, fun _ _ => rfl⟩
  | .node l v r => by
    obtain ⟨a, ha⟩ := T.bound l
    obtain ⟨b, hb⟩ := T.bound r
    refine ⟨2 * (a + b) + 2, fun x hx => ?_⟩
    cases x with
    | zero => omega
    | succ j =>
      rw [T.get_succ]
      split
      · exact ha _ (by omega)
      · exact hb _ (by omega)
end Go.Ev
