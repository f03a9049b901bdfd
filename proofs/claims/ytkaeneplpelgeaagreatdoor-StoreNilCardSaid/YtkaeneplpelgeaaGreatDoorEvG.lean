/- PART EvG of a proof by an evaluator of the model that is proved sound. -/
import Derived.Test.YtkaeneplpelgeaaGreatDoorEvG0
set_option linter.unusedVariables false
set_option linter.unusedSimpArgs false
namespace Go.Ev
open Go Go.RowKit
section denied
theorem denied_append (a b : List (Nat × Nat)) (x : Nat) : denied (a ++ b) x = (denied a x || denied b x) := by
  induction a with
  | nil => rfl
  | cons p a ih => obtain ⟨u, v⟩ := p; show ((Nat.ble u x && Nat.ble (Nat.succ x) v) || denied (a ++ b) x) = _; rw [ih, ← Bool.or_assoc]; rfl
theorem denied_cons (a b : Nat) (l : List (Nat × Nat)) (x : Nat) : denied ((a, b) :: l) x = true ↔ (a ≤ x ∧ x < b) ∨ denied l x = true := by
  show ((Nat.ble a x && Nat.ble (Nat.succ x) b) || denied l x) = true ↔ _
  rw [Bool.or_eq_true, Bool.and_eq_true, Nat.ble_eq, Nat.ble_eq]
  exact Iff.rfl
theorem denied_mem {l : List (Nat × Nat)} {a b x : Nat} (h : (a, b) ∈ l) (h1 : a ≤ x) (h2 : x < b) : denied l x = true := by
  induction l with
  | nil => cases h
  | cons p l ih =>
    obtain ⟨u, v⟩ := p
    rw [denied_cons]
    rcases List.mem_cons.1 h with h | h
    · cases h; exact .inl ⟨h1, h2⟩
    · exact .inr (ih h)
theorem masked_false {m : Mask} {x : Nat} : masked m x = false ↔ denied m.deny x = false ∧ ∀ l, m.only = some l → among l x = true := by
  unfold masked
  cases m.only with
  | none => simp
  | some l => simp
theorem among_mem {l : List Nat} {x : Nat} (h : among l x = true) : x ∈ l := by
  induction l with
  | nil => cases h
  | cons a l ih =>
    have : (Nat.beq a x || among l x) = true := h
    rw [Bool.or_eq_true] at this
    rcases this with h | h
    · have := Nat.eq_of_beq_eq_true h; simp [this]
    · simp [ih h]
theorem denyOf_spec (b : Nat) : ∀ (l : List Done) (i : Nat) (r : List (Nat × Nat)), denyOf b i l = some r → ∀ j d, l[j]? = some d → b.testBit (i + j) = false →
    (∀ x, d.fro ≤ x → x < d.upto → denied r x = true) ∧ (∀ l', d.wrote = .some l' → ∀ x ∈ l', denied r x = true) ∧ (∀ lo up, d.wrote = .all lo up → ∀ x, lo ≤ x → x < up → denied r x = true)
  | [], _, _, _, j, d, hj, _ => by simp at hj
  | c :: l, i, r, h, j, d, hj, hb => by
    unfold denyOf at h
    cases hr : denyOf b (Nat.succ i) l with
    | none => rw [hr] at h; cases h
    | some r0 =>
      rw [hr] at h
      dsimp only at h
      have sub : ∀ x, denied r0 x = true → denied r x = true := by
        intro x hx
        cases hbi : b.testBit i with
        | true => rw [hbi] at h; cases h; exact hx
        | false =>
          rw [hbi] at h
          dsimp only [cond_false] at h
          have hx' : denied (bif Nat.ble (Nat.succ c.fro) c.upto then (c.fro, c.upto) :: r0 else r0) x = true := by
            cases Nat.ble (Nat.succ c.fro) c.upto with
            | true => exact (denied_cons _ _ _ _).2 (.inr hx)
            | false => exact hx
          cases hw : c.wrote with
          | none => rw [hw] at h; cases h; exact hx'
          | some l' => rw [hw] at h; cases h; rw [denied_append, hx']; simp
          | all lo up => rw [hw] at h; cases h; exact (denied_cons _ _ _ _).2 (.inr hx')
      cases j with
      | zero =>
        simp only [List.getElem?_cons_zero, Option.some.injEq] at hj
        subst hj
        have hbi : b.testBit i = false := hb
        rw [hbi] at h
        dsimp only [cond_false] at h
        have hx' : ∀ x, c.fro ≤ x → x < c.upto → denied (bif Nat.ble (Nat.succ c.fro) c.upto then (c.fro, c.upto) :: r0 else r0) x = true := by
          intro x h1 h2
          rw [Nat.ble_eq_true_of_le (by omega : Nat.succ c.fro ≤ c.upto)]
          exact (denied_cons _ _ _ _).2 (.inl ⟨h1, h2⟩)
        cases hw : c.wrote with
        | none => rw [hw] at h; cases h; exact ⟨hx', fun l' e => by simp at e, fun lo up e => by simp at e⟩
        | some l' =>
          rw [hw] at h; cases h
          refine ⟨fun x h1 h2 => by rw [denied_append, hx' x h1 h2]; simp, fun l'' e x hx => ?_, fun lo up e => by simp at e⟩
          cases e
          exact denied_mem (List.mem_append_left _ (List.mem_map.2 ⟨x, hx, rfl⟩)) (Nat.le_refl x) (Nat.lt_succ_self x)
        | all lo up =>
          rw [hw] at h; cases h
          refine ⟨fun x h1 h2 => (denied_cons _ _ _ _).2 (.inr (hx' x h1 h2)), fun l'' e => by simp at e, fun lo' up' e x h1 h2 => ?_⟩
          cases e
          exact (denied_cons _ _ _ _).2 (.inl ⟨h1, h2⟩)
      | succ j =>
        simp only [List.getElem?_cons_succ] at hj
        obtain ⟨h1, h2, h3⟩ := denyOf_spec b l (Nat.succ i) r0 hr j d hj (by rw [show Nat.succ i + j = i + (j + 1) by omega]; exact hb)
        exact ⟨fun x a b => sub x (h1 x a b), fun l' e x hx => sub x (h2 l' e x hx), fun lo up e x q1 q2 => sub x (h3 lo up e x q1 q2)⟩
theorem unseen_spec (b : Nat) (w : Wrote) : ∀ (l : List Done) (i : Nat), unseen b w i l = true → ∀ j d, l[j]? = some d → b.testBit (i + j) = false →
    (∀ xs, w = .some xs → ∀ x ∈ xs, masked ⟨d.deny, d.only⟩ x = true) ∧ (∀ lo up, w = .all lo up → ∀ x, lo ≤ x → x < up → masked ⟨d.deny, d.only⟩ x = true)
  | [], _, _, j, d, hj, _ => by simp at hj
  | c :: l, i, h, j, d, hj, hb => by
    unfold unseen at h
    rw [Bool.and_eq_true] at h
    cases j with
    | zero =>
      simp only [List.getElem?_cons_zero, Option.some.injEq] at hj
      subst hj
      have hbi : b.testBit i = false := hb
      have h2 := h.2
      rw [hbi, Bool.false_or] at h2
      refine ⟨fun xs e x hx => ?_, fun lo up e x q1 q2 => ?_⟩
      · subst e
        exact List.all_eq_true.1 h2 x hx
      · subst e
        dsimp only at h2
        cases ho : c.only with
        | none => rw [ho] at h2; cases h2
        | some l' =>
          rw [ho] at h2
          unfold masked
          dsimp only
          cases hd : denied c.deny x with
          | true => rfl
          | false =>
            cases ha : among l' x with
            | false => rfl
            | true =>
              have := List.all_eq_true.1 h2 x (among_mem ha)
              rw [hd, Nat.ble_eq_true_of_le q1, Nat.ble_eq_true_of_le (show Nat.succ x ≤ up from q2)] at this
              cases this
    | succ j =>
      simp only [List.getElem?_cons_succ] at hj
      exact unseen_spec b w l (Nat.succ i) h.1 j d hj (by rw [show Nat.succ i + j = i + (j + 1) by omega]; exact hb)
end denied

/-- A tree without some numbers. -/
def T.filter {α : Type} (p : Nat → Bool) : T α → T α
  | .leaf => .leaf
  | .node l v r => .node (T.filter (fun i => p (2 * i + 1)) l) (if p 0 then v else none) (T.filter (fun i => p (2 * i + 2)) r)
theorem T.get_filter {α : Type} : ∀ (t : T α) (p : Nat → Bool) (x : Nat), (T.filter p t).get x = if p x then t.get x else none
  | .leaf, p, x => by simp [T.filter, T.get_leaf]
  | .node l v r, p, x => by
    unfold T.filter
    cases x with
    | zero => rw [T.get_zero, T.get_zero]
    | succ j =>
      rw [T.get_succ, T.get_succ]
      split
      · rename_i hj
        rw [T.get_filter l, show 2 * (j / 2) + 1 = j + 1 by omega]
      · rename_i hj
        rw [T.get_filter r, show 2 * (j / 2) + 2 = j + 1 by omega]
section seq
variable {P : Program} {call : FuncId → List Value → E Value} {n : Nat}
/-- One operation of a region that draws its order. -/
inductive DStep (P : Program) (call : FuncId → List Value → E Value) (n : Nat) (all : List Oper) (o : Oper) (b : Nat) (done : List Done) (r : Regs) (s : St) (r' : Regs) : St → Done → Prop
  | skip : wanted all o r = some false → putR n r o.dst undef = some r' → DStep P call n all o b done r s r' s ⟨0, 0, [], some [], .none⟩
  | run (v : Value) (s1 : St) (deny : List (Nat × Nat)) : wanted all o r = some true → (opIds o.op (ev r) = some [] ∨ denyOf b 0 done = some deny) → s.mask.only = none →
    armOf o.op P call (ev r) { heap := s.heap, next := s.next, low := s.next, mask := ⟨deny ++ s.mask.deny, opIds o.op (ev r)⟩ } = some (v, s1) →
    unseen b (wroteOf s1.low s.next (opIds o.op (ev r))) 0 done = true → putR n r o.dst v = some r' →
    DStep P call n all o b done r s r' { heap := s1.heap, next := s1.next, low := Nat.min s.low s1.low, mask := s.mask } ⟨s.next, s1.next, deny, opIds o.op (ev r), wroteOf s1.low s.next (opIds o.op (ev r))⟩
theorem bindE {α β : Type} {m : E α} {f : α → E β} {s s2 : St} {b : β} (h : (m >>= f) s = some (b, s2)) : ∃ a s1, m s = some (a, s1) ∧ f a s1 = some (b, s2) := by
  have h' : (match m s with | none => none | some (a, s) => f a s) = some (b, s2) := h
  cases hm : m s with
  | none => rw [hm] at h'; cases h'
  | some p => rw [hm] at h'; exact ⟨p.1, p.2, rfl, h'⟩
theorem evalDraw_cons {all : List Oper} {o : Oper} {b : Nat} {rest : List (Oper × Nat)} {done : List Done} {r r' : Regs} {s s' : St} (h : evalDraw P call n all ((o, b) :: rest) done r s = some (r', s')) :
    ∃ r1 s1 d, DStep P call n all o b done r s r1 s1 d ∧ evalDraw P call n all rest (done ++ [d]) r1 s1 = some (r', s') := by
  unfold evalDraw at h
  cases hw : wanted all o r with
  | none => rw [hw] at h; cases h
  | some t =>
    rw [hw] at h
    cases t with
    | false =>
      dsimp only at h
      cases hp : putR n r o.dst undef with
      | none => rw [hp] at h; cases h
      | some r1 => rw [hp] at h; exact ⟨r1, s, _, .skip hw hp, h⟩
    | true =>
      dsimp only at h
      obtain ⟨mm, hmm, hh⟩ := app h
      clear h
      split at hmm
      · subst hmm; cases hh
      · rename_i deny hd
        subst hmm
        have h := hh
        clear hh
        have hd' : opIds o.op (ev r) = some [] ∨ denyOf b 0 done = some deny := by
          revert hd
          split
          · intro _; left; assumption
          · intro hd; exact .inr hd
        obtain ⟨⟨v, fro, upto, w⟩, s2, h1, h2⟩ := bindE h
        clear h
        dsimp only at h2
        unfold withMask at h1
        cases ho : s.mask.only with
        | some l => rw [ho] at h1; cases h1
        | none =>
          rw [ho] at h1
          dsimp only at h1
          cases ha : armOf o.op P call (ev r) { heap := s.heap, next := s.next, low := s.next, mask := ⟨deny ++ s.mask.deny, opIds o.op (ev r)⟩ } with
          | none => rw [ha] at h1; cases h1
          | some q =>
            obtain ⟨v', s1⟩ := q
            rw [ha] at h1
            cases h1
            cases hu : unseen b (wroteOf s1.low s.next (opIds o.op (ev r))) 0 done with
            | false => rw [hu] at h2; cases h2
            | true =>
              rw [hu] at h2
              dsimp only [cond_true] at h2
              cases hp : putR n r o.dst v with
              | none => rw [hp] at h2; cases h2
              | some r1 =>
                rw [hp] at h2
                exact ⟨r1, _, _, .run v s1 deny hw hd' ho ha hu hp, h2⟩
theorem evalDraw_seq {all : List Oper} : ∀ (l : List (Oper × Nat)) (done : List Done) (r r' : Regs) (s s' : St), evalDraw P call n all l done r s = some (r', s') →
    ∃ (R : Nat → Regs) (σ : Nat → St) (D : Nat → Done), R 0 = r ∧ σ 0 = s ∧ R l.length = r' ∧ σ l.length = s' ∧
      ∀ k o b, l[k]? = some (o, b) → DStep P call n all o b (done ++ (List.range k).map D) (R k) (σ k) (R (k + 1)) (σ (k + 1)) (D k)
  | [], done, r, r', s, s', h => by
    unfold evalDraw at h
    have h' : some (r, s) = some (r', s') := h
    cases h'
    exact ⟨fun _ => r, fun _ => s, fun _ => ⟨0, 0, [], none, .none⟩, rfl, rfl, rfl, rfl, fun k o b hk => by simp at hk⟩
  | (o, b) :: rest, done, r, r', s, s', h => by
    obtain ⟨r1, s1, d, hd, hr⟩ := evalDraw_cons h
    obtain ⟨R, σ, D, h1, h2, h3, h4, h5⟩ := evalDraw_seq rest _ r1 r' s1 s' hr
    refine ⟨fun k => match k with | 0 => r | k + 1 => R k, fun k => match k with | 0 => s | k + 1 => σ k, fun k => match k with | 0 => d | k + 1 => D k, rfl, rfl, h3, h4, ?_⟩
    intro k o' b' hk
    cases k with
    | zero =>
      simp only [List.getElem?_cons_zero, Option.some.injEq, Prod.mk.injEq] at hk
      obtain ⟨rfl, rfl⟩ := hk
      simp only [List.range_zero, List.map_nil, List.append_nil]
      rw [h1, h2]
      exact hd
    | succ k =>
      simp only [List.getElem?_cons_succ] at hk
      have := h5 k o' b' hk
      rw [List.range_succ_eq_map, List.map_cons, List.map_map]
      rw [List.append_assoc] at this
      exact this
end seq
end Go.Ev
