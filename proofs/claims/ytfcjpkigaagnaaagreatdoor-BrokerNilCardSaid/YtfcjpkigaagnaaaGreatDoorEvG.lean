/- PART EvG of a proof by an evaluator of the model that is proved sound. -/
import Derived.Test.YtfcjpkigaagnaaaGreatDoorEvG0
set_option linter.unusedSimpArgs false
set_option linter.unusedVariables false



namespace Go.Ev
open Go Go.RowKit
section denied
theorem denied_append (a b : List (Nat × Nat)) (x : Nat) : denied (a ++ b) x = (denied a x || denied b x) := by
  induction a with
  | nil => rfl
  | cons p a ih => obtain ⟨u, v⟩ := p; show ((Nat.ble u x && Nat.ble (Nat.succ x) v) || denied (a ++ b) x) = _; rw [ih, ← Bool.or_assoc]; rfl
theorem denied_cons (a b : Nat) (l : List (Nat × Nat)) (x : Nat) : denied ((a, b) :: l) x = true ↔ (a ≤ x ∧ x < b) ∨ denied l x = true := by
  show ((Nat.ble a x && Nat.ble (Nat.succ x) b) || denied l x) = true ↔ _
  rw [Bool.or_eq_true, Bool.and_eq_true, Nat.ble_eq, Nat.ble_eq]
  exact Iff.rfl
theorem denied_mem {l : List (Nat × Nat)} {a b x : Nat} (h : (a, b) ∈ l) (h1 : a ≤ x) (h2 : x < b) : denied l x = true := by
  induction l with
  | nil => cases h
  | cons p l ih =>
    obtain ⟨u, v⟩ := p
    rw [denied_cons]
    rcases List.mem_cons.1 h with h | h
    · cases h; exact .inl ⟨h1, h2⟩
    · exact .inr (ih h)
theorem masked_false {m : Mask} {x : Nat} : masked m x = false ↔ denied m.deny x = false ∧ ∀ l, m.only = some l → among l x = true := by
  unfold masked
  cases m.only with
  | none => simp
  | some l => simp
theorem among_mem {l : List Nat} {x : Nat} (h : among l x = true) : x ∈ l := by
  induction l with
  | nil => cases h
  | cons a l ih =>
    have : (Nat.beq a x || among l x) = true := h
    rw [Bool.or_eq_true] at this
    rcases this with h | h
    · have := Nat.eq_of_beq_eq_true h; simp [this]
    · simp [ih h]
theorem denyOf_spec (b : Nat) : ∀ (l : List Done) (i : Nat) (r : List (Nat × Nat)), denyOf b i l = some r → ∀ j d, l[j]? = some d → b.testBit (i + j) = false →
    (∀ x, d.fro ≤ x → x < d.upto → denied r x = true) ∧ (∀ l', d.wrote = .some l' → ∀ x ∈ l', denied r x = true) ∧ (∀ lo up, d.wrote = .all lo up → ∀ x, lo ≤ x → x < up → denied r x = true)
  | [], _, _, _, j, d, hj, _ => by simp at hj
  | c :: l, i, r, h, j, d, hj, hb => by
    unfold denyOf at h
    cases hr : denyOf b (Nat.succ i) l with
    | none => rw [hr] at h; cases h
    | some r0 =>
      rw [hr] at h
      dsimp only at h
      have sub : ∀ x, denied r0 x = true → denied r x = true := by
        intro x hx
        cases hbi : b.testBit i with
        | true => rw [hbi] at h; cases h; exact hx
        | false =>
          rw [hbi] at h
          dsimp only [cond_false] at h
          have hx' : denied (bif Nat.ble (Nat.succ c.fro) c.upto then (c.fro, c.upto) :: r0 else r0) x = true := by
            cases Nat.ble (Nat.succ c.fro) c.upto with
            | true => exact (denied_cons _ _ _ _).2 (.inr hx)
            | false => exact hx
          cases hw : c.wrote with
          | none => rw [hw] at h; cases h; exact hx'
          | some l' => rw [hw] at h; cases h; rw [denied_append, hx']; simp
          | all lo up => rw [hw] at h; cases h; exact (denied_cons _ _ _ _).2 (.inr hx')
      cases j with
      | zero =>
        simp only [List.getElem?_cons_zero, Option.some.injEq] at hj
        subst hj
        have hbi : b.testBit i = false := hb
        rw [hbi] at h
        dsimp only [cond_false] at h
        have hx' : ∀ x, c.fro ≤ x → x < c.upto → denied (bif Nat.ble (Nat.succ c.fro) c.upto then (c.fro, c.upto) :: r0 else r0) x = true := by
          intro x h1 h2
          rw [Nat.ble_eq_true_of_le (by omega : Nat.succ c.fro ≤ c.upto)]
          exact (denied_cons _ _ _ _).2 (.inl ⟨h1, h2⟩)
        cases hw : c.wrote with
        | none => rw [hw] at h; cases h; exact ⟨hx', fun l' e => by simp at e, fun lo up e => by simp at e⟩
        | some l' =>
          rw [hw] at h; cases h
          refine ⟨fun x h1 h2 => by rw [denied_append, hx' x h1 h2]; simp, fun l'' e x hx => ?_, fun lo up e => by simp at e⟩
          cases e
          exact denied_mem (List.mem_append_left _ (List.mem_map.2 ⟨x, hx, rfl⟩)) (Nat.le_refl x) (Nat.lt_succ_self x)
        | all lo up =>
          rw [hw] at h; cases h
          refine ⟨fun x h1 h2 => (denied_cons _ _ _ _).2 (.inr (hx' x h1 h2)), fun l'' e => by simp at e, fun lo' up' e x h1 h2 => ?_⟩
          cases e
          exact (denied_cons _ _ _ _).2 (.inl ⟨h1, h2⟩)
      | succ j =>
        simp only [List.getElem?_cons_succ] at hj
        obtain ⟨h1, h2, h3⟩ := denyOf_spec b l (Nat.succ i) r0 hr j d hj (by rw [show Nat.succ i + j = i + (j + 1) by omega]; exact hb)
        exact ⟨fun x a b => sub x (h1 x a b), fun l' e x hx => sub x (h2 l' e x hx), fun lo up e x q1 q2 => sub x (h3 lo up e x q1 q2)⟩
theorem unseen_spec (b : Nat) (w : Wrote) : ∀ (l : List Done) (i : Nat), unseen b w i l = true → ∀ j d, l[j]? = some d → b.testBit (i + j) = false →
    (∀ xs, w = .some xs → ∀ x ∈ xs, masked ⟨d.deny, d.only⟩ x = true) ∧ (∀ lo up, w = .all lo up → ∀ x, lo ≤ x → x < up → masked ⟨d.deny, d.only⟩ x = true)
  | [], _, _, j, d, hj, _ => by simp at hj
  | c :: l, i, h, j, d, hj, hb => by
    unfold unseen at h
    rw [Bool.and_eq_true] at h
    cases j with
    | zero =>
      simp only [List.getElem?_cons_zero, Option.some.injEq] at hj
      subst hj
      have hbi : b.testBit i = false := hb
      have h2 := h.2
      rw [hbi, Bool.false_or] at h2
      refine ⟨fun xs e x hx => ?_, fun lo up e x q1 q2 => ?_⟩
      · subst e
        exact List.all_eq_true.1 h2 x hx
      · subst e
        dsimp only at h2
        cases ho : c.only with
        | none => rw [ho] at h2; cases h2
        | some l' =>
          rw [ho] at h2
          unfold masked
          dsimp only
          cases hd : denied c.deny x with
          | true => rfl
          | false =>
            cases ha : among l' x with
            | false => rfl
            | true =>
              have := List.all_eq_true.1 h2 x (among_mem ha)
              rw [hd, Nat.ble_eq_true_of_le q1, Nat.ble_eq_true_of_le (show Nat.succ x ≤ up from q2)] at this
              cases this
    | succ j =>
      simp only [List.getElem?_cons_succ] at hj
      exact unseen_spec b w l (Nat.succ i) h.1 j d hj (by rw [show Nat.succ i + j = i + (j + 1) by omega]; exact hb)
end denied

/-- A tree without some numbers. -/
def T.filter {α : Type} (p : Nat → Bool) : T α → T α
  | .leaf => .leaf
  | .node l v r => .node (T.filter (fun i => p (2 * i + 1)) l) (if p 0 then v else none) (T.filter (fun i => p (2 * i + 2)) r)
theorem T.get_filter {α : Type} : ∀ (t : T α) (p : Nat → Bool) (x : Nat), (T.filter p t).get x = if p x then t.get x else none
  | .leaf, p, x => by simp [T.filter, T.get_leaf]
  | .node l v r, p, x => by
    unfold T.filter
    cases x with
    | zero => rw [T.get_zero, T.get_zero]
    | succ j =>
      rw [T.get_succ, T.get_succ]
      split
      · rename_i hj
        rw [T.get_filter l, show 2 * (j / 2) + 1 = j + 1 by omega]
      · rename_i hj
        rw [T.get_filter r, show 2 * (j / 2) + 2 = j + 1 by omega]
section seq
variable {P : Program} {call : FuncId → List Value → E Value} {n : Nat}
/-- One operation of a region that draws its order. -/
inductive DStep (P : Program) (call : FuncId → List Value → E Value) (n : Nat) (all : List Oper) (o : Oper) (b : Nat) (done : List Done) (r : Regs) (s : St) (r' : Regs) : St → Done → Prop
  | skip : wanted all o r = some false → putR n r o.dst undef = some r' → DStep P call n all o b done r s r' s ⟨0, 0, [], some [], .none⟩
  | run (v : Value) (s1 : St) (deny : List (Nat × Nat)) : wanted all o r = some true → (opIds o.op (ev r) = some [] ∨ denyOf b 0 done = some deny) → s.mask.only = none →
    armOf o.op P call (ev r) { heap := s.heap, next := s.next, low := s.next, mask := ⟨deny ++ s.mask.deny, opIds o.op (ev r)⟩ } = some (v, s1) →
    unseen b (wroteOf s1.low s.next (opIds o.op (ev r))) 0 done = true → putR n r o.dst v = some r' →
    DStep P call n all o b done r s r' { heap := s1.heap, next := s1.next, low := Nat.min s.low s1.low, mask := s.mask } ⟨s.next, s1.next, deny, opIds o.op (ev r), wroteOf s1.low s.next (opIds o.op (ev r))⟩
theorem bindE {α β : Type} {m : E α} {f : α → E β} {s s2 : St} {b : β} (h : (m >>= f) s = some (b, s2)) : ∃ a s1, m s = some (a, s1) ∧ f a s1 = some (b, s2) := by
  have h' : (match m s with | none => none | some (a, s) => f a s) = some (b, s2) := h
  cases hm : m s with
  | none => rw [hm] at h'; cases h'
  | some p => rw [hm] at h'; exact ⟨p.1, p.2, rfl, h'⟩
theorem evalDraw_cons {all : List Oper} {o : Oper} {b : Nat} {rest : List (Oper × Nat)} {done : List Done} {r r' : Regs} {s s' : St} (h : evalDraw P call n all ((o, b) :: rest) done r s = some (r', s')) :
    ∃ r1 s1 d, DStep P call n all o b done r s r1 s1 d ∧ evalDraw P call n all rest (done ++ [d]) r1 s1 = some (r', s') := by
  unfold evalDraw at h
  cases hw : wanted all o r with
  | none => rw [hw] at h; cases h
  | some t =>
    rw [hw] at h
    cases t with
    | false =>
      dsimp only at h
      cases hp : putR n r o.dst undef with
      | none => rw [hp] at h; cases h
      | some r1 => rw [hp] at h; exact ⟨r1, s, _, .skip hw hp, h⟩
    | true =>
      dsimp only at h
      obtain ⟨mm, hmm, hh⟩ := app h
      clear h
      split at hmm
      · subst hmm; cases hh
      · rename_i deny hd
        subst hmm
        have h := hh
        clear hh
        have hd' : opIds o.op (ev r) = some [] ∨ denyOf b 0 done = some deny := by
          revert hd
          split
          · intro _; left; assumption
          · intro hd; exact .inr hd
        obtain ⟨⟨v, fro, upto, w⟩, s2, h1, h2⟩ := bindE h
        clear h
        dsimp only at h2
        unfold withMask at h1
        cases ho : s.mask.only with
        | some l => rw [ho] at h1; cases h1
        | none =>
          rw [ho] at h1
          dsimp only at h1
          cases ha : armOf o.op P call (ev r) { heap := s.heap, next := s.next, low := s.next, mask := ⟨deny ++ s.mask.deny, opIds o.op (ev r)⟩ } with
          | none => rw [ha] at h1; cases h1
          | some q =>
            obtain ⟨v', s1⟩ := q
            rw [ha] at h1
            cases h1
            cases hu : unseen b (wroteOf s1.low s.next (opIds o.op (ev r))) 0 done with
            | false => rw [hu] at h2; cases h2
            | true =>
              rw [hu] at h2
              dsimp only [cond_true] at h2
              cases hp : putR n r o.dst v with
              | none => rw [hp] at h2; cases h2
              | some r1 =>
                rw [hp] at h2
                exact ⟨r1, _, _, .run v s1 deny hw hd' ho ha hu hp, h2⟩
theorem evalDraw_seq {all : List Oper} : ∀ (l : List (Oper × Nat)) (done : List Done) (r r' : Regs) (s s' : St), evalDraw P call n all l done r s = some (r', s') →
    ∃ (R : Nat → Regs) (σ : Nat → St) (D : Nat → Done), R 0 = r ∧ σ 0 = s ∧ R l.length = r' ∧ σ l.length = s' ∧
      ∀ k o b, l[k]? = some (o, b) → DStep P call n all o b (done ++ (List.range k).map D) (R k) (σ k) (R (k + 1)) (σ (k + 1)) (D k)
  | [], done, r, r', s, s', h => by
    unfold evalDraw at h
    have h' : some (r, s) = some (r', s') := h
    cases h'
    exact ⟨fun _ => r, fun _ => s, fun _ => ⟨0, 0, [], none, .none⟩, rfl, rfl, rfl, rfl, fun k o b hk => by simp at hk⟩
  | (o, b) :: rest, done, r, r', s, s', h => by
    obtain ⟨r1, s1, d, hd, hr⟩ := evalDraw_cons h
    obtain ⟨R, σ, D, h1, h2, h3, h4, h5⟩ := evalDraw_seq rest _ r1 r' s1 s' hr
    refine ⟨fun k => match k with | 0 => r | k + 1 => R k, fun k => match k with | 0 => s | k + 1 => σ k, fun k => match k with | 0 => d | k + 1 => D k, rfl, rfl, h3, h4, ?_⟩
    intro k o' b' hk
    cases k with
    | zero =>
      simp only [List.getElem?_cons_zero, Option.some.injEq, Prod.mk.injEq] at hk
      obtain ⟨rfl, rfl⟩ := hk
      simp only [List.range_zero, List.map_nil, List.append_nil]
      rw [h1, h2]
      exact hd
    | succ k =>
      simp only [List.getElem?_cons_succ] at hk
      have := h5 k o' b' hk
      rw [List.range_succ_eq_map, List.map_cons, List.map_map]
      rw [List.append_assoc] at this
      exact this
end seq
end Go.Ev



namespace Go.Ev
open Go Go.RowKit
section facts
variable {P : Program} {call : FuncId → List Value → E Value} {n : Nat}
theorem DStep.inv {all : List Oper} {o : Oper} {b : Nat} {done : List Done} {r r' : Regs} {s s' : St} {d : Done} (h : DStep P call n all o b done r s r' s' d) :
    (wanted all o r = some false ∧ putR n r o.dst undef = some r' ∧ s' = s ∧ d = ⟨0, 0, [], some [], .none⟩) ∨
    ∃ v s1 deny, wanted all o r = some true ∧ (opIds o.op (ev r) = some [] ∨ denyOf b 0 done = some deny) ∧ s.mask.only = none ∧
      armOf o.op P call (ev r) { heap := s.heap, next := s.next, low := s.next, mask := ⟨deny ++ s.mask.deny, opIds o.op (ev r)⟩ } = some (v, s1) ∧
      unseen b (wroteOf s1.low s.next (opIds o.op (ev r))) 0 done = true ∧ putR n r o.dst v = some r' ∧
      s' = { heap := s1.heap, next := s1.next, low := Nat.min s.low s1.low, mask := s.mask } ∧ d = ⟨s.next, s1.next, deny, opIds o.op (ev r), wroteOf s1.low s.next (opIds o.op (ev r))⟩ := by
  cases h with
  | skip h1 h2 => exact .inl ⟨h1, h2, rfl, rfl⟩
  | run v s1 deny h1 h2 h3 h4 h5 h6 => exact .inr ⟨v, s1, deny, h1, h2, h3, h4, h5, h6, rfl, rfl⟩
/-- Is operation i ahead of operation k by its name? -/
def bit (ops : Array Oper) (i k : Nat) : Bool := ((Region.before ops).getD k 0).testBit i
structure Seq (P : Program) (call : FuncId → List Value → E Value) (n : Nat) (ops : Array Oper) (R : Nat → Regs) (σ : Nat → St) (D : Nat → Done) : Prop where
  step : ∀ k o, ops[k]? = some o → DStep P call n ops.toList o ((Region.before ops).getD k 0) ((List.range k).map D) (R k) (σ k) (R (k + 1)) (σ (k + 1)) (D k)
  pairs : ∀ i k oi ok, i < k → ops[i]? = some oi → ops[k]? = some ok → bit ops i k = false → oi.apart ops ok = true
  edges : ∀ k o, ops[k]? = some o → ∀ e ∈ o.after.toList, Region.binds .any e = true → e.on < k
  bd0 : Bd (σ 0)
  fr : ∀ f as, Fr (call f as)
def vis (σ : Nat → St) (D : Nat → Done) (k x : Nat) : Prop := masked ⟨(D k).deny ++ (σ 0).mask.deny, (D k).only⟩ x = false
def rng (σ : Nat → St) (k x : Nat) : Prop := (σ k).next ≤ x ∧ x < (σ (k + 1)).next
def wrt (σ : Nat → St) (D : Nat → Done) (k x : Nat) : Prop := ((D k).wrote ≠ .none ∧ ∀ lo up, (D k).wrote = .all lo up → lo ≤ x ∧ x < up) ∧ vis σ D k x ∧ x < (σ k).next
def touches (σ : Nat → St) (D : Nat → Done) (k x : Nat) : Prop := rng σ k x ∨ wrt σ D k x
variable {ops : Array Oper} {R : Nat → Regs} {σ : Nat → St} {D : Nat → Done}
theorem wroteOf_low {lo up x : Nat} {only : Option (List Nat)} (h1 : lo ≤ x) (h2 : x < up) : wroteOf lo up only ≠ .none ∧ ∀ l u, wroteOf lo up only = .all l u → l ≤ x ∧ x < u := by
  unfold wroteOf
  rw [Nat.ble_eq_true_of_le (show Nat.succ lo ≤ up by omega)]
  cases only with
  | none => exact ⟨by simp, fun l u e => by simp at e; omega⟩
  | some l' => exact ⟨by simp, fun l u e => by simp at e⟩
theorem Seq.has (k : Nat) (h : k < ops.size) : ∃ o, ops[k]? = some o := ⟨ops[k], by simp [h]⟩
/-- What one operation leaves as it was. -/
theorem Seq.one (h : Seq P call n ops R σ D) {k : Nat} (hk : k < ops.size) (hm : (σ k).mask = (σ 0).mask) (hb : Bd (σ k)) :
    (σ (k + 1)).mask = (σ k).mask ∧ (σ k).next ≤ (σ (k + 1)).next ∧ Bd (σ (k + 1)) ∧ (∀ x, ¬ touches σ D k x → (σ (k + 1)).heap.get x = (σ k).heap.get x) := by
  obtain ⟨o, ho⟩ := Seq.has k hk
  rcases (h.step k o ho).inv with ⟨h1, h2, h3, h4⟩ | ⟨v, s1, deny, h1, h2, h3, h4, h5, h6, h7, h8⟩
  · rw [h3]; exact ⟨rfl, Nat.le_refl _, hb, fun x _ => rfl⟩
  · have st := (Fr.armOf o.op h.fr).step _ _ _ h4
    have e1 : (σ (k + 1)).heap = s1.heap := by rw [h7]
    have e2 : (σ (k + 1)).next = s1.next := by rw [h7]
    have e3 : (σ (k + 1)).mask = (σ k).mask := by rw [h7]
    have hn : (σ k).next ≤ s1.next := st.next
    have keeps : ∀ x, ¬ touches σ D k x → (σ (k + 1)).heap.get x = (σ k).heap.get x := by
      intro x hx
      rw [e1]
      have hr : ¬ rng σ k x := fun c => hx (.inl c)
      refine st.keeps x (by rw [← e2]; exact hr) ?_
      by_cases hv : masked ⟨deny ++ (σ k).mask.deny, opIds o.op (ev (R k))⟩ x = true
      · exact .inl hv
      · by_cases hx0 : (σ k).heap.get x = none
        · exact .inr (.inl hx0)
        · obtain ⟨p, hp⟩ := Option.ne_none_iff_exists'.1 hx0
          by_cases hlt : x < (σ k).next
          · right; right
            have hw : ¬ wrt σ D k x := fun c => hx (.inr c)
            have hvx : vis σ D k x := by
              unfold vis
              rw [h8, ← hm]
              simpa using hv
            refine Decidable.byContradiction fun hlo => hw ⟨?_, hvx, hlt⟩
            rw [h8]
            exact wroteOf_low (by omega) hlt
          · exfalso
            have := hb x p (by omega) hp
            apply hv
            unfold masked at this ⊢
            rw [h3] at this
            rw [denied_append]
            simp only [Bool.or_false] at this
            rw [this]; simp
    refine ⟨e3, by rw [e2]; exact hn, ?_, keeps⟩
    intro x p hx hp
    rw [e3]
    by_cases ht : touches σ D k x
    · rcases ht with ht | ht
      · exact absurd ht.2 (by omega)
      · exact absurd ht.2.2 (by rw [e2] at hx; omega)
    · rw [keeps x ht] at hp
      exact hb x p (by rw [e2] at hx; omega) hp
theorem Seq.all (h : Seq P call n ops R σ D) : ∀ k, k ≤ ops.size → (σ k).mask = (σ 0).mask ∧ Bd (σ k) ∧ ∀ i, i ≤ k → (σ i).next ≤ (σ k).next := by
  intro k
  induction k with
  | zero => intro _; exact ⟨rfl, h.bd0, fun i hi => by have : i = 0 := by omega
                                                       rw [this]; exact Nat.le_refl _⟩
  | succ k ih =>
    intro hk
    obtain ⟨h1, h2, h3⟩ := ih (by omega)
    obtain ⟨a, b, c, d⟩ := h.one (by omega) h1 h2
    refine ⟨a.trans h1, c, fun i hi => ?_⟩
    by_cases e : i = k + 1
    · rw [e]; exact Nat.le_refl _
    · exact Nat.le_trans (h3 i (by omega)) b
theorem Seq.mask (h : Seq P call n ops R σ D) {k : Nat} (hk : k ≤ ops.size) : (σ k).mask = (σ 0).mask := (h.all k hk).1
theorem Seq.bd (h : Seq P call n ops R σ D) {k : Nat} (hk : k ≤ ops.size) : Bd (σ k) := (h.all k hk).2.1
theorem Seq.next (h : Seq P call n ops R σ D) {i k : Nat} (hi : i ≤ k) (hk : k ≤ ops.size) : (σ i).next ≤ (σ k).next := (h.all k hk).2.2 i hi
theorem Seq.k1 (h : Seq P call n ops R σ D) {k x : Nat} (hk : k < ops.size) (hx : ¬ touches σ D k x) : (σ (k + 1)).heap.get x = (σ k).heap.get x :=
  (h.one hk (h.mask (by omega)) (h.bd (by omega))).2.2.2 x hx
/-- An object that no operation from i to k touches. -/
theorem Seq.same (h : Seq P call n ops R σ D) {i x : Nat} : ∀ k, i ≤ k → k ≤ ops.size → (∀ j, i ≤ j → j < k → ¬ touches σ D j x) → (σ k).heap.get x = (σ i).heap.get x := by
  intro k
  induction k with
  | zero => intro hi _ _; have : i = 0 := by omega
            rw [this]
  | succ k ih =>
    intro hi hk ht
    by_cases e : i = k + 1
    · rw [e]
    · rw [h.k1 (by omega) (ht k (by omega) (by omega))]
      exact ih (by omega) (by omega) fun j h1 h2 => ht j h1 (by omega)
theorem range_get {D : Nat → Done} {i k : Nat} (h : i < k) : ((List.range k).map D)[i]? = some (D i) := by simp [h]
theorem masked_more {a b : List (Nat × Nat)} {m : Option (List Nat)} {x : Nat} (h : masked ⟨a, m⟩ x = true) : masked ⟨a ++ b, m⟩ x = true := by
  unfold masked at *
  dsimp only at *
  rw [denied_append]
  rw [Bool.or_eq_true] at h ⊢
  rcases h with h | h
  · left; rw [h]; rfl
  · exact .inr h
/-- What an earlier operation that a later one does not follow touches, the later one does not see. -/
theorem Seq.k2 (h : Seq P call n ops R σ D) {i k x : Nat} (hik : i < k) (hk : k < ops.size) (hb : bit ops i k = false) (ht : touches σ D i x) : ¬ vis σ D k x := by
  obtain ⟨o, ho⟩ := Seq.has k hk
  intro hv
  unfold vis at hv
  rcases (h.step k o ho).inv with ⟨h1, h2, h3, h4⟩ | ⟨v, s1, deny, h1, h2, h3, h4, h5, h6, h7, h8⟩
  · rw [h4] at hv
    have := (masked_false.1 hv).2 [] rfl
    cases this
  · rw [h8] at hv
    have hv' := masked_false.1 hv
    dsimp only at hv'
    rcases h2 with h2 | h2
    · have := hv'.2 [] h2
      cases this
    · obtain ⟨g1, g2, g3⟩ := denyOf_spec _ _ 0 _ h2 i (D i) (range_get hik) (by rw [Nat.zero_add]; exact hb)
      have hden : denied deny x = true := by
        rcases ht with ht | ht
        · -- a new one
          obtain ⟨oi, hoi⟩ := Seq.has (ops := ops) i (by omega)
          rcases (h.step i oi hoi).inv with ⟨q1, q2, q3, q4⟩ | ⟨v', s1', deny', q1, q2, q3, q4, q5, q6, q7, q8⟩
          · unfold rng at ht; rw [q3] at ht; omega
          · refine g1 x ?_ ?_
            · rw [q8]; exact ht.1
            · rw [q8]; have := ht.2; rw [q7] at this; exact this
        · obtain ⟨t1, t2, t3⟩ := ht
          cases hwi : (D i).wrote with
          | none => exact absurd hwi t1.1
          | all lo up => exact g3 lo up hwi x (t1.2 lo up hwi).1 (t1.2 lo up hwi).2
          | some l' =>
            refine g2 l' hwi x ?_
            -- it sees its own objects alone
            obtain ⟨oi, hoi⟩ := Seq.has (ops := ops) i (by omega)
            rcases (h.step i oi hoi).inv with ⟨q1, q2, q3, q4⟩ | ⟨v', s1', deny', q1, q2, q3, q4, q5, q6, q7, q8⟩
            · rw [q4] at hwi; cases hwi
            · rw [q8] at hwi
              unfold vis at t2
              rw [q8] at t2
              have t2' := (masked_false.1 t2).2
              dsimp only at hwi t2'
              unfold wroteOf at hwi
              cases hb1 : Nat.ble (Nat.succ s1'.low) (σ i).next with
              | false => rw [hb1] at hwi; cases hwi
              | true =>
                rw [hb1] at hwi
                cases ho1 : opIds oi.op (ev (R i)) with
                | none => rw [ho1] at hwi; cases hwi
                | some l2 =>
                  rw [ho1] at hwi
                  cases hwi
                  exact among_mem (t2' _ ho1)
      have := hv'.1
      rw [denied_append, hden] at this
      cases this
/-- What a later operation writes, an earlier one that it does not follow has not seen. -/
theorem Seq.k3 (h : Seq P call n ops R σ D) {i k x : Nat} (hik : i < k) (hk : k < ops.size) (hb : bit ops i k = false) (hw : wrt σ D k x) : ¬ vis σ D i x := by
  obtain ⟨o, ho⟩ := Seq.has k hk
  obtain ⟨t1, t2, t3⟩ := hw
  intro hv
  rcases (h.step k o ho).inv with ⟨h1, h2, h3, h4⟩ | ⟨v, s1, deny, h1, h2, h3, h4, h5, h6, h7, h8⟩
  · rw [h4] at t1; exact t1.1 rfl
  · obtain ⟨g1, g2⟩ := unseen_spec _ _ _ 0 h5 i (D i) (range_get hik) (by rw [Nat.zero_add]; exact hb)
    rw [h8] at t1
    unfold vis at t2 hv
    rw [h8] at t2
    have t2' := (masked_false.1 t2).2
    dsimp only at t1 t2'
    cases hb1 : Nat.ble (Nat.succ s1.low) (σ k).next with
    | false => unfold wroteOf at t1; rw [hb1] at t1; exact t1.1 rfl
    | true =>
      unfold wroteOf at g1 g2 t1
      rw [hb1] at g1 g2 t1
      cases ho1 : opIds o.op (ev (R k)) with
      | none =>
        rw [ho1] at g2 t1
        obtain ⟨b1, b2⟩ := t1.2 _ _ rfl
        have := masked_more (b := (σ 0).mask.deny) (g2 _ _ rfl x b1 b2)
        rw [this] at hv
        cases hv
      | some l2 =>
        rw [ho1] at g1
        have hx := among_mem (t2' _ ho1)
        have := masked_more (b := (σ 0).mask.deny) (g1 l2 rfl x hx)
        rw [this] at hv
        cases hv
end facts
end Go.Ev



namespace Go.Ev
open Go Go.RowKit
section inv
variable {P : Program} {call : FuncId → List Value → E Value} {n : Nat} {ω : Nat → Value} {B : Nat} {W0 : World} {ops : Array Oper} {R : Nat → Regs} {σ : Nat → St} {D : Nat → Done}
structure Inv (ω : Nat → Value) (B : Nat) (W0 : World) (n : Nat) (ops : Array Oper) (R : Nat → Regs) (σ : Nat → St) (D : Nat → Done) (S : Nat → Prop) (τ : T AObj) (μ0 μ : Mp) (w : World) (a : Act) : Prop where
  rel : Rel ω B W0 μ τ w
  ext : Ext μ0 μ (σ 0).next (σ ops.size).next
  heap : ∀ x b o, b ≤ ops.size → (∀ k, k < b → touches σ D k x → S k) → (∀ k, b ≤ k → k < ops.size → touches σ D k x → ¬ S k) → (x < (σ b).next ∨ (σ ops.size).next ≤ x) → (σ b).heap.get x = some o → τ.get x = some o
  new : ∀ k x, k < ops.size → ¬ S k → rng σ k x → τ.get x = none ∧ μ x = none
  size : a.tmps.size = n
  defers : a.defers = []
  regs : ∀ t b, b ≤ ops.size → (∀ k o, k < b → ops[k]? = some o → o.dst = some t → S k) → (∀ k o, b ≤ k → ops[k]? = some o → o.dst = some t → ¬ S k) → VR ω μ (getR (R b) t) (a.tmps.getD t undef)
  closed : ∀ i k, k < ops.size → S k → bit ops i k = true → S i
variable {S : Nat → Prop} {τ : T AObj} {μ0 μ : Mp} {w : World} {a : Act}
theorem lt_of_get {k : Nat} {o : Oper} (h : ops[k]? = some o) : k < ops.size := (Array.getElem?_eq_some_iff.1 h).1
theorem Inv.look (h : Inv ω B W0 n ops R σ D S τ μ0 μ w a) (hs : Seq P call n ops R σ D) {i : Nat} {oi : Oper} (hi : ops[i]? = some oi) (hn : ¬ S i) (hb : ∀ j, bit ops j i = true → S j) {t : Nat} (ht : t ∈ oi.looksAt ops) : VR ω μ (getR (R i) t) (a.tmps.getD t undef) := by
  have hlt := lt_of_get hi
  refine h.regs t i (by omega) (fun k o hk ho hd => ?_) (fun k o hk ho hd hS => ?_)
  · by_cases c : bit ops k i = true
    · exact hb k c
    · have := (Oper.apart_spec (hs.pairs k i o oi hk ho hi (by simpa using c))).1 t hd
      exact absurd ht this
  · by_cases e : i = k
    · subst e; exact hn hS
    · have hik : i < k := by omega
      by_cases c : bit ops i k = true
      · exact hn (h.closed i k (lt_of_get ho) hS c)
      · exact (Oper.apart_spec (hs.pairs i k oi o hik hi ho (by simpa using c))).2.2 t hd ht
theorem ev_ok' {r : Regs} {x : Operand} (h : ∀ t, x = .tmp t → VR ω μ (getR r t) (a.tmps.getD t undef)) (hg : ∀ g, g < 4096 → ∃ l, μ g = some l ∧ l.blk = g ∧ l.off = 0) : VR ω μ (ev r x) (a.eval x) := by
  cases x with
  | tmp t => exact h t rfl
  | const v =>
    show VR ω μ (bif flatC v then v else .chan none) v
    cases hf : flatC v with
    | true => exact VR.refl_flatC hf
    | false => exact .junk v
  | global g =>
    show VR ω μ (bif Nat.ble g 4095 then ptr g 0 else .chan none) (.pointer (some ⟨g, 0, none⟩))
    cases hb : Nat.ble g 4095 with
    | true =>
      obtain ⟨l, h1, h2, h3⟩ := hg g (by have := Nat.le_of_ble_eq_true hb; omega)
      have := VR.ptr (ω := ω) g 0 l h1
      rw [h2, h3] at this
      exact this
    | false => exact .junk _
  | func f => exact .func _ _ _ _ _ rfl rfl (fun i v v' e => by simp at e) (fun i v v' e => by simp at e)
theorem tmp_looks {o : Oper} {t : Nat} (h : Operand.tmp t ∈ o.op.operands) : t ∈ o.looksAt ops := by
  unfold Oper.looksAt
  refine List.mem_append_left _ (List.mem_filterMap.2 ⟨.tmp t, by simpa using h, rfl⟩)
theorem guard_looks {o : Oper} {j d : Nat} {want : Bool} (hg : o.guard = some (j, want)) (hd : (ops[j]?).bind (·.dst) = some d) : d ∈ o.looksAt ops := by
  unfold Oper.looksAt
  refine List.mem_append_right _ ?_
  rw [hg]
  dsimp only
  rw [hd]
  simp
/-- The registers behind one more operation. -/
theorem Inv.regs' (h : Inv ω B W0 n ops R σ D S τ μ0 μ w a) (hs : Seq P call n ops R σ D) {i : Nat} {oi : Oper} (hi : ops[i]? = some oi) (hn : ¬ S i) {μ' : Mp} (he : ∀ x l, μ x = some l → μ' x = some l)
    {v u : Value} (hp : putR n (R i) oi.dst v = some (R (i + 1))) (hR : ∀ k o, ops[k]? = some o → ∀ t, o.dst ≠ some t → getR (R (k + 1)) t = getR (R k) t) (hv : VR ω μ' v u) :
    (a.put oi.dst u).tmps.size = n ∧ (a.put oi.dst u).defers = [] ∧
    ∀ t b, b ≤ ops.size → (∀ k o, k < b → ops[k]? = some o → o.dst = some t → S k ∨ k = i) → (∀ k o, b ≤ k → ops[k]? = some o → o.dst = some t → ¬ (S k ∨ k = i)) → VR ω μ' (getR (R b) t) ((a.put oi.dst u).tmps.getD t undef) := by
  have hlt := lt_of_get hi
  have same : ∀ t k, i + 1 ≤ k → k ≤ ops.size → (∀ j o, i + 1 ≤ j → j < k → ops[j]? = some o → o.dst ≠ some t) → getR (R k) t = getR (R (i + 1)) t := by
    intro t k
    induction k with
    | zero => intro h1; omega
    | succ k ih =>
      intro h1 h2 h3
      by_cases e : i + 1 = k + 1
      · rw [e]
      · obtain ⟨o, ho⟩ := Seq.has (ops := ops) k (by omega)
        rw [hR k o ho t (h3 k o (by omega) (by omega) ho)]
        exact ih (by omega) (by omega) fun j o h1 h2 => h3 j o h1 (by omega)
  have old : ∀ t b, oi.dst ≠ some t → b ≤ ops.size → (∀ k o, k < b → ops[k]? = some o → o.dst = some t → S k ∨ k = i) → (∀ k o, b ≤ k → ops[k]? = some o → o.dst = some t → ¬ (S k ∨ k = i)) → VR ω μ' (getR (R b) t) (a.tmps.getD t undef) := by
    intro t b hne hb h1 h2
    refine (h.regs t b hb (fun k o hk ho hd => (h1 k o hk ho hd).resolve_right ?_) (fun k o hk ho hd hS => h2 k o hk ho hd (.inl hS))).ext he
    intro e
    subst e
    rw [hi] at ho
    cases ho
    exact hne hd
  cases hd : oi.dst with
  | none =>
    refine ⟨h.size, h.defers, fun t b hb h1 h2 => ?_⟩
    exact old t b (by rw [hd]; simp) hb h1 h2
  | some d =>
    rw [hd] at hp
    unfold putR at hp
    dsimp only at hp
    cases hbb : Nat.ble (Nat.succ d) n with
    | false => rw [hbb] at hp; cases hp
    | true =>
      rw [hbb] at hp
      have hp : some ((R i).set d v) = some (R (i + 1)) := hp
      simp only [Option.some.injEq] at hp
      have hdn : d < n := Nat.le_of_ble_eq_true hbb
      refine ⟨by simp [Act.put, h.size], h.defers, fun t b hb h1 h2 => ?_⟩
      simp only [Act.put, Array.getD_eq_getD_getElem?, Array.getElem?_setIfInBounds]
      by_cases e : d = t
      · subst e
        rw [if_pos rfl, if_pos (by rw [h.size]; exact hdn)]
        have hib : i < b := by
          by_cases c : i < b
          · exact c
          · exact absurd (.inr rfl) (h2 i oi (by omega) hi hd)
        rw [same d b (by omega) hb ?_, ← hp, getR_set, if_pos rfl]
        · exact hv
        · intro j o hj1 hj2 hjo hjd
          have hSj := (h1 j o hj2 hjo hjd).resolve_right (by omega)
          by_cases c : bit ops i j = true
          · exact hn (h.closed i j (by omega) hSj c)
          · exact (Oper.apart_spec (hs.pairs i j oi o (by omega) hi hjo (by simpa using c))).2.1 d hd hjd
      · rw [if_neg e]
        have := old t b (by rw [hd]; simpa using e) hb h1 h2
        rwa [Array.getD_eq_getD_getElem?] at this
theorem Seq.keepR (hs : Seq P call n ops R σ D) (k : Nat) (o : Oper) (ho : ops[k]? = some o) (t : Nat) (hne : o.dst ≠ some t) : getR (R (k + 1)) t = getR (R k) t := by
  have hput : ∀ v, putR n (R k) o.dst v = some (R (k + 1)) → getR (R (k + 1)) t = getR (R k) t := by
    intro v hp
    cases hd : o.dst with
    | none => rw [hd] at hp; have : some (R k) = some (R (k + 1)) := hp; simp only [Option.some.injEq] at this; rw [this]
    | some d =>
      rw [hd] at hp hne
      unfold putR at hp
      dsimp only at hp
      cases hbb : Nat.ble (Nat.succ d) n with
      | false => rw [hbb] at hp; cases hp
      | true =>
        rw [hbb] at hp
        have hp : some ((R k).set d v) = some (R (k + 1)) := hp
        simp only [Option.some.injEq] at hp
        rw [← hp, getR_set, if_neg (fun e => hne (by rw [e]))]
  rcases (hs.step k o ho).inv with ⟨h1, h2, h3, h4⟩ | ⟨v, s1, deny, h1, h2, h3, h4, h5, h6, h7, h8⟩
  · exact hput _ h2
  · exact hput _ h6
end inv
end Go.Ev



namespace Go.Ev
open Go Go.RowKit
section step
variable {P : Program} {call : FuncId → List Value → E Value} {n : Nat} {ω : Nat → Value} {B : Nat} {W0 : World} {ops : Array Oper} {R : Nat → Regs} {σ : Nat → St} {D : Nat → Done}
variable {S : Nat → Prop} {τ : T AObj} {μ0 μ : Mp} {w : World} {a : Act}
theorem Ext.wide {μ μ' : Mp} {a b a' b' : Nat} (h : Ext μ μ' a b) (h1 : a' ≤ a) (h2 : b ≤ b') : Ext μ μ' a' b' := ⟨h.1, fun x hx hr => h.2 x hx (by omega)⟩
theorem Ext.then {μ μ' μ'' : Mp} {a b : Nat} (h : Ext μ μ' a b) (h' : Ext μ' μ'' a b) : Ext μ μ'' a b := ⟨fun x l e => h'.1 x l (h.1 x l e), fun x e hn => h'.2 x (h.2 x e hn) hn⟩
theorem Inv.step {Q : Exit → Act → World → Prop} {K : Act → World → Prop} (hω : ∀ k, (ω k).oneCell' = true) (hc : CallsOk P ω B W0 call) (hs : Seq P call n ops R σ D) (h4 : 4096 ≤ (σ 0).next)
    (h : Inv ω B W0 n ops R σ D S τ μ0 μ w a) {i : Nat} {oi : Oper} (hi : ops[i]? = some oi) (hn : ¬ S i) (hb : ∀ j, bit ops j i = true → S j)
    (hK : ∀ τ' μ' w' a', Inv ω B W0 n ops R σ D (fun k => S k ∨ k = i) τ' μ0 μ' w' a' → K a' w') : wpOp P ops Q i K a w := by
  have hlt := lt_of_get hi
  unfold wpOp
  rw [hi]
  dsimp only
  have hwant : ∀ b, wanted ops.toList oi (R i) = some b → Region.wanted oi (yielded ops a.tmps) = b := fun b hb' =>
    wanted_ok' (μ := μ) (ω := ω) (fun j want d hg hd => h.look hs hi hn hb (guard_looks hg hd)) hb'
  have hclosed : ∀ j k, k < ops.size → (S k ∨ k = i) → bit ops j k = true → (S j ∨ j = i) := by
    intro j k hk hS hbit
    rcases hS with hS | rfl
    · exact .inl (h.closed j k hk hS hbit)
    · exact .inl (hb j hbit)
  rcases (hs.step i oi hi).inv with ⟨h1, h2, h3, h5⟩ | ⟨v, s1, deny, h1, h2, h3, harm, h5, h6, h7, h8⟩
  · -- left out by its guard
    rw [hwant _ h1]
    simp only [Bool.false_eq_true, if_false]
    obtain ⟨g1, g2, g3⟩ := h.regs' hs hi hn (μ' := μ) (fun _ _ e => e) h2 (hs.keepR) VR.undef
    have hno : ∀ x, ¬ touches σ D i x := by
      intro x hx
      rcases hx with hx | hx
      · unfold rng at hx; rw [h3] at hx; omega
      · have := hx.1; rw [h5] at this; exact this.1 rfl
    refine hK τ μ w _ ⟨h.rel, h.ext, fun x b o hbn q1 q2 q3 q4 => ?_, fun k x hk hnS hr => h.new k x hk (fun c => hnS (.inl c)) hr, g1, g2, g3, hclosed⟩
    refine h.heap x b o hbn (fun k hk ht => (q1 k hk ht).resolve_right ?_) (fun k hk hkn ht c => q2 k hk hkn ht (.inl c)) q3 q4
    rintro rfl
    exact hno x ht
  · rw [hwant _ h1]
    simp only [if_true]
    left
    have st := (Fr.armOf oi.op hs.fr).step _ _ _ harm
    have hmi : (σ i).mask = (σ 0).mask := hs.mask (by omega)
    have hvis : ∀ x, vis σ D i x ↔ masked ⟨deny ++ (σ i).mask.deny, opIds oi.op (ev (R i))⟩ x = false := by
      intro x; unfold vis; rw [h8, hmi]
    have hnx : (σ (i + 1)).next = s1.next := by rw [h7]
    have hhx : (σ (i + 1)).heap = s1.heap := by rw [h7]
    have hbi := hs.bd (k := i) (by omega)
    have behind : ∀ x p, (σ i).heap.get x = some p → vis σ D i x → x < (σ i).next := by
      intro x p hp hv
      refine Decidable.byContradiction fun c => ?_
      have := hbi x p (by omega) hp
      rw [hvis] at hv
      unfold masked at this hv
      rw [h3] at this
      rw [denied_append] at hv
      simp only [Bool.or_false] at this
      rw [this] at hv
      simp at hv
    -- the text's run, on the heap as it is
    obtain ⟨NB, hNB⟩ := T.bound τ
    obtain ⟨H2, hrun, hag, hkp⟩ := st.rerun τ ⟨(s1.next, NB) :: (deny ++ (σ i).mask.deny), opIds oi.op (ev (R i))⟩ rfl (by
      intro x hx hor
      rw [masked_false] at hx ⊢
      refine ⟨?_, hx.2⟩
      cases hd : denied ((s1.next, NB) :: (deny ++ (σ i).mask.deny)) x with
      | false => rfl
      | true =>
        rw [denied_cons] at hd
        rcases hd with hd | hd
        · exfalso
          rcases hor with hor | hor
          · obtain ⟨p, hp⟩ := Option.ne_none_iff_exists'.1 hor
            have := behind x p hp ((hvis x).2 (masked_false.2 hx))
            have := st.next
            dsimp only at *
            omega
          · omega
        · exact absurd hd (by rw [hx.1]; simp)) (by
      intro x p hx hp
      have hv := (hvis x).2 hx
      have hxn := behind x p hp hv
      refine h.heap x i p (by omega) (fun k hk ht => ?_) (fun k hk hkn ht hS => ?_) (.inl hxn) hp
      · by_cases c : bit ops k i = true
        · exact hb k c
        · exact absurd hv (hs.k2 hk hlt (by simpa using c) ht)
      · by_cases e : i = k
        · subst e; exact hn hS
        · have hik : i < k := by omega
          by_cases c : bit ops i k = true
          · exact hn (h.closed i k hkn hS c)
          · rcases ht with ht | ht
            · have := hs.next (i := i) (k := k) (by omega) (by omega)
              have := ht.1
              omega
            · exact hs.k3 hik hkn (by simpa using c) ht hv) (fun x h1 h2 => (h.new i x hlt hn ⟨h1, by rw [hnx]; exact h2⟩).1)
    -- with operands of its own
    obtain ⟨ρ₁, hρ₁, hρ₂⟩ : ∃ ρ₁ : Operand → Value, (∀ x ∈ oi.op.operands, ev (R i) x = ρ₁ x) ∧ ∀ x, x ∉ oi.op.operands → ρ₁ x = .chan none := by
      classical
      exact ⟨fun x => if x ∈ oi.op.operands then ev (R i) x else .chan none, fun x hx => by simp only [if_pos hx], fun x hx => by simp only [if_neg hx]⟩
    have hVR : ∀ x, VR ω μ (ρ₁ x) (a.eval x) := by
      intro x
      by_cases hx : x ∈ oi.op.operands
      · rw [← hρ₁ x hx]
        refine ev_ok' (fun t e => ?_) h.rel.glob
        subst e
        exact h.look hs hi hn hb (tmp_looks hx)
      · rw [hρ₂ x hx]
        exact .junk _
    rw [armOf_congr oi.op hρ₁] at hrun
    have hni := hs.next (i := 0) (k := i) (by omega) (by omega)
    have hfresh : Fresh μ (σ i).next s1.next := fun x q1 q2 => (h.new i x hlt hn ⟨q1, by rw [hnx]; exact q2⟩).2
    have hdoes := armOf_ok (o := oi) (ρ' := a.eval) (s := { heap := τ, next := (σ i).next, low := (σ i).next, mask := ⟨(s1.next, NB) :: (deny ++ (σ i).mask.deny), opIds oi.op (ev (R i))⟩ }) (s' := { heap := H2, next := s1.next, low := s1.low, mask := ⟨(s1.next, NB) :: (deny ++ (σ i).mask.deny), opIds oi.op (ev (R i))⟩ }) hω hc (by
      intro x p hx hp
      dsimp only at hx hp ⊢
      have hxNB : x < NB := by
        refine Decidable.byContradiction fun c => ?_
        rw [hNB x (by omega)] at hp
        cases hp
      have hx1 : s1.next ≤ x := by
        refine Decidable.byContradiction fun c => ?_
        rw [(h.new i x hlt hn ⟨hx, by rw [hnx]; omega⟩).1] at hp
        cases hp
      unfold masked
      rw [(denied_cons _ _ _ _).2 (.inl ⟨hx1, hxNB⟩)]
      rfl) hrun hVR h.rel (by dsimp only; omega) hfresh
    refine wp_of_does hdoes fun u w' hpost => ?_
    obtain ⟨μ', he, hR', hv⟩ := hpost
    obtain ⟨g1, g2, g3⟩ := h.regs' hs hi hn he.1 h6 hs.keepR hv
    have hsn : s1.next ≤ (σ ops.size).next := by rw [← hnx]; exact hs.next (by omega) (Nat.le_refl _)
    have notouch : ∀ x, ¬ touches σ D i x → masked ⟨deny ++ (σ i).mask.deny, opIds oi.op (ev (R i))⟩ x = true ∨ (σ i).heap.get x = none ∨ x < s1.low := by
      intro x hx
      by_cases hvx : vis σ D i x
      · right
        by_cases hx0 : (σ i).heap.get x = none
        · exact .inl hx0
        · obtain ⟨p, hp⟩ := Option.ne_none_iff_exists'.1 hx0
          have hxn := behind x p hp hvx
          right
          refine Decidable.byContradiction fun hlo => hx (.inr ⟨?_, hvx, hxn⟩)
          rw [h8]
          exact wroteOf_low (by omega) hxn
      · left
        rw [hvis] at hvx
        simpa using hvx
    refine hK H2 μ' w' _ ⟨hR', h.ext.then (he.wide hni hsn), fun x b o hbn q1 q2 q3 q4 => ?_, fun k x hk hnS hr => ?_, g1, g2, g3, hclosed⟩
    · by_cases ht : touches σ D i x
      · have hib : i < b := by
          refine Decidable.byContradiction fun c => ?_
          exact q2 i (by omega) hlt ht (.inr rfl)
        have e : (σ b).heap.get x = (σ (i + 1)).heap.get x := by
          refine hs.same b (by omega) hbn fun j hj1 hj2 htj => ?_
          have hSj := (q1 j hj2 htj).resolve_right (by omega)
          have hjn : j < ops.size := by omega
          by_cases c : bit ops i j = true
          · exact hn (h.closed i j hjn hSj c)
          · have nv := hs.k2 (by omega) hjn (by simpa using c) ht
            rcases htj with htj | htj
            · have hx2 : x < (σ j).next := by
                have := hs.next (i := i + 1) (k := j) (by omega) (by omega)
                have := hs.next (i := i) (k := j) (by omega) (by omega)
                rcases ht with ht | ht
                · have := ht.2; omega
                · have := ht.2.2; omega
              have := htj.1
              omega
            · exact nv htj.2.1
        rw [e, hhx] at q4
        refine hag x o ?_ q4
        rcases ht with ht | ht
        · exact .inr ⟨ht.1, by rw [← hnx]; exact ht.2⟩
        · exact .inl ((hvis x).1 ht.2.1)
      · rw [hkp x (fun c => ht (.inl ⟨c.1, by rw [hnx]; exact c.2⟩)) (notouch x ht)]
        refine h.heap x b o hbn (fun k hk htk => (q1 k hk htk).resolve_right ?_) (fun k hk hkn htk c => q2 k hk hkn htk (.inl c)) q3 q4
        rintro rfl
        exact ht htk
    · have hki : k ≠ i := fun e => hnS (.inr e)
      have hnSk : ¬ S k := fun c => hnS (.inl c)
      have hout : ¬ ((σ i).next ≤ x ∧ x < s1.next) := by
        intro c
        rcases Nat.lt_or_gt_of_ne hki with hlt' | hgt
        · have := hs.next (i := k + 1) (k := i) (by omega) (by omega)
          have := hr.2
          omega
        · have := hs.next (i := i + 1) (k := k) (by omega) (by omega)
          have := hr.1
          omega
      have hnone := h.new k x hk hnSk hr
      refine ⟨?_, he.2 x hnone.2 hout⟩
      rw [hkp x hout ?_]
      · exact hnone.1
      · rcases Nat.lt_or_gt_of_ne hki with hlt' | hgt
        · left
          have c : ¬ bit ops k i = true := fun c => hnSk (hb k c)
          have := hs.k2 hlt' hlt (by simpa using c) (.inl hr)
          rw [hvis] at this
          simpa using this
        · by_cases hx0 : (σ i).heap.get x = none
          · exact .inr (.inl hx0)
          · left
            obtain ⟨p, hp⟩ := Option.ne_none_iff_exists'.1 hx0
            have : ¬ vis σ D i x := by
              intro hv
              have := behind x p hp hv
              have := hs.next (i := i) (k := k) (by omega) (by omega)
              have := hr.1
              omega
            rw [hvis] at this
            simpa using this
end step
end Go.Ev



namespace Go.Ev
open Go Go.RowKit
theorem pairs_all {ops : Array Oper} : ∀ (l : List (Oper × Nat)) (done : List Oper), pairsOk ops l done = true → ∀ k o b, l[k]? = some (o, b) →
    (∀ i d, (done ++ (l.take k).map (·.1))[i]? = some d → b.testBit i = false → d.apart ops o = true) ∧ (∀ e ∈ o.after.toList, Region.binds .any e = true → e.on < done.length + k)
  | [], _, _, k, o, b, hk => by simp at hk
  | (o, b) :: l, done, h, k, o', b', hk => by
    unfold pairsOk at h
    simp only [Bool.and_eq_true] at h
    obtain ⟨⟨⟨h1, _⟩, h2⟩, h3⟩ := h
    cases k with
    | zero =>
      simp only [List.getElem?_cons_zero, Option.some.injEq, Prod.mk.injEq] at hk
      obtain ⟨rfl, rfl⟩ := hk
      refine ⟨fun i d hd hb => ?_, fun e he hbn => ?_⟩
      · simp only [List.take_zero, List.map_nil, List.append_nil] at hd
        have := List.all_eq_true.1 h1 (d, i) (List.mem_zipIdx_iff_getElem?.2 hd)
        dsimp only at this
        rw [hb, Bool.false_or] at this
        exact this
      · have := List.all_eq_true.1 h2 e he
        rw [hbn] at this
        simp only [Bool.not_true, Bool.false_or] at this
        have := Nat.le_of_ble_eq_true this
        omega
    | succ k =>
      simp only [List.getElem?_cons_succ] at hk
      obtain ⟨q1, q2⟩ := pairs_all l _ h3 k o' b' hk
      refine ⟨fun i d hd hb => q1 i d ?_ hb, fun e he hbn => ?_⟩
      · simpa using hd
      · have := q2 e he hbn
        simp only [List.length_append, List.length_cons, List.length_nil] at this
        omega
theorem countP_less {α : Type} {p q : α → Bool} {i : α} (hp : p i = true) (hq : q i = false) (h : ∀ k, q k = true → p k = true) : ∀ l : List α, i ∈ l → l.countP q < l.countP p
  | [], hi => by cases hi
  | x :: l, hi => by
    rw [List.countP_cons, List.countP_cons]
    have hmono : l.countP q ≤ l.countP p := List.countP_mono_left fun k _ hk => h k hk
    rcases List.mem_cons.1 hi with rfl | hi
    · rw [hp, hq]; simp; omega
    · have := countP_less hp hq h l hi
      cases hx : q x with
      | true => rw [h x hx]; omega
      | false => simp; omega
section draw
variable {P : Program} {call : FuncId → List Value → E Value} {n : Nat} {ω : Nat → Value} {B : Nat} {W0 : World} {ops : Array Oper}
theorem befs_get {k : Nat} {o : Oper} (h : ops[k]? = some o) : (befs ops)[k]? = some (o, (Region.before ops).getD k 0) := by
  unfold befs
  have hk := lt_of_get h
  have hb : k < (Region.before ops).size := by rw [(before_bits ops).1]; exact hk
  rw [List.getElem?_zip_eq_some]
  refine ⟨by simpa using h, ?_⟩
  simp [hb]
theorem befs_length : (befs ops).length = ops.size := by
  unfold befs
  rw [List.length_zip, Array.length_toList, Array.length_toList, (before_bits ops).1, Nat.min_self]
theorem befs_map (k : Nat) : ((befs ops).take k).map (·.1) = ops.toList.take k := by
  have : (befs ops).map (·.1) = ops.toList := by
    unfold befs
    rw [List.map_fst_zip]
    rw [Array.length_toList, Array.length_toList, (before_bits ops).1]
    exact Nat.le_refl _
  rw [List.map_take, this]
theorem rng_some {R : Nat → Regs} {σ : Nat → St} {D : Nat → Done} (hs : Seq P call n ops R σ D) {x : Nat} : ∀ b, b ≤ ops.size → (σ 0).next ≤ x → x < (σ b).next → ∃ k, k < b ∧ rng σ k x := by
  intro b
  induction b with
  | zero => intro _ h1 h2; omega
  | succ b ih =>
    intro hb h1 h2
    by_cases c : x < (σ b).next
    · obtain ⟨k, hk, hr⟩ := ih (by omega) h1 c
      exact ⟨k, by omega, hr⟩
    · exact ⟨b, by omega, by omega, h2⟩
theorem drawn_ok {Q : Exit → Act → World → Prop} {R : Nat → Regs} {σ : Nat → St} {D : Nat → Done} {μ0 : Mp} (hω : ∀ k, (ω k).oneCell' = true) (hc : CallsOk P ω B W0 call) (hs : Seq P call n ops R σ D) (h4 : 4096 ≤ (σ 0).next)
    (hQ : ∀ μ' a' w', Ext μ0 μ' (σ 0).next (σ ops.size).next → Rel ω B W0 μ' (σ ops.size).heap w' → RegR ω μ' n (R ops.size) a' → Q .normal a' w') :
    ∀ (fuel : Nat) (listed : Array Bool) (τ : T AObj) (μ : Mp) (w : World) (a : Act), listed.size = ops.size → (List.range ops.size).countP (fun k => !listed.getD k false) ≤ fuel →
      Inv ω B W0 n ops R σ D (fun k => listed.getD k false = true) τ μ0 μ w a → wpAny P .any ops Q fuel listed a w := by
  have hlist : ∀ (listed : Array Bool) k, listed.size = ops.size → k < ops.size → listed.getD k true = listed.getD k false := by
    intro listed k h1 h2
    rw [Array.getD_eq_getD_getElem?, Array.getD_eq_getD_getElem?, Array.getElem?_eq_getElem (by omega)]
    rfl
  have full : ∀ (listed : Array Bool) (τ : T AObj) (μ : Mp) (w : World) (a : Act), (∀ k, k < ops.size → listed.getD k false = true) → Inv ω B W0 n ops R σ D (fun k => listed.getD k false = true) τ μ0 μ w a → Q .normal a w := by
    intro listed τ μ w a hall h
    refine hQ μ a w h.ext (h.rel.congr fun x o hx _ => h.heap x ops.size o (Nat.le_refl _) (fun k hk _ => hall k hk) (fun k h1 h2 => by omega) (by omega) hx) ⟨h.size, h.defers, fun t => ?_⟩
    exact h.regs t ops.size (Nat.le_refl _) (fun k o hk _ _ => hall k hk) (fun k o hk ho => by have := lt_of_get ho; omega)
  have none_ready : ∀ (listed : Array Bool), listed.size = ops.size → Region.ready .any ops listed = [] → ∀ k, k < ops.size → listed.getD k false = true := by
    intro listed hsz hr k
    induction k using Nat.strongRecOn with
    | _ k ih =>
      intro hk
      cases hg : listed.getD k false with
      | true => rfl
      | false =>
        obtain ⟨o, ho⟩ := Seq.has k hk
        have : k ∈ Region.ready .any ops listed := by
          rw [mem_ready]
          refine ⟨by rw [hlist listed k hsz hk]; exact hg, o, ho, fun e he hb => ?_⟩
          have hlt := hs.edges k o ho e (by simpa using he) hb
          exact ih e.on hlt (by omega)
        rw [hr] at this
        cases this
  intro fuel
  induction fuel with
  | zero =>
    intro listed τ μ w a hsz hcnt h
    have hall : ∀ k, k < ops.size → listed.getD k false = true := by
      intro k hk
      have : (List.range ops.size).countP (fun k => !listed.getD k false) = 0 := by omega
      rw [List.countP_eq_zero] at this
      have := this k (by simpa using hk)
      simpa using this
    refine ⟨?_, full listed τ μ w a hall h⟩
    cases hr : Region.ready .any ops listed with
    | nil => rfl
    | cons i l =>
      exfalso
      have hm : i ∈ Region.ready .any ops listed := by rw [hr]; simp
      rw [mem_ready] at hm
      obtain ⟨h0, o, ho, _⟩ := hm
      have hk := lt_of_get ho
      rw [hlist listed i hsz hk, hall i hk] at h0
      cases h0
  | succ fuel ih =>
    intro listed τ μ w a hsz hcnt h
    refine ⟨fun hr => full listed τ μ w a (none_ready listed hsz hr) h, fun i hi => ?_⟩
    rw [mem_ready] at hi
    obtain ⟨h0, o, ho, hed⟩ := hi
    have hk := lt_of_get ho
    rw [hlist listed i hsz hk] at h0
    refine h.step hω hc hs h4 ho (by rw [h0]; simp) (fun j hj => ?_) (fun τ' μ' w' a' h' => ?_)
    · obtain ⟨e, he, hb, h'⟩ := (before_bits ops).2 i o ho j hj
      have hl := hed e (by simpa using he) hb
      rcases h' with rfl | ⟨h1, h2⟩
      · exact hl
      · exact h.closed j e.on (by omega) hl h2
    · have hS : (fun k => listed.getD k false = true ∨ k = i) = fun k => (listed.setIfInBounds i true).getD k false = true := by
        funext k
        refine propext ⟨fun hor => ?_, fun hg => ?_⟩
        · rcases hor with hor | rfl
          · exact getD_set_true hor
          · simp [Array.getD_eq_getD_getElem?, hsz, hk]
        · by_cases e : i = k
          · exact .inr e.symm
          · rw [getD_set_ne false e] at hg
            exact .inl hg
      rw [hS] at h'
      refine ih (listed.setIfInBounds i true) τ' μ' w' a' (by simpa using hsz) ?_ h'
      have := countP_less (p := fun k => !listed.getD k false) (q := fun k => !(listed.setIfInBounds i true).getD k false) (i := i) (by rw [h0]; rfl) (by simp [Array.getD_eq_getD_getElem?, hsz, hk]) (fun k hq => by
        cases hl : listed.getD k false with
        | false => rfl
        | true => rw [getD_set_true hl] at hq; cases hq) (List.range ops.size) (by simpa using hk)
      omega
theorem region_draw_ok {Q : Exit → Act → World → Prop} {r r' : Regs} {s s' : St} {μ : Mp} {w : World} {a : Act} {id : Nat} (hm : P.follows .mixedOrders = true) (hω : ∀ k, (ω k).oneCell' = true) (hc : CallsOk P ω B W0 call) (hcf : ∀ f as, Fr (call f as))
    (hp : pairsOk ops (befs ops) [] = true) (h : evalDraw P call n ops.toList (befs ops) [] r s = some (r', s')) (hR : Rel ω B W0 μ s.heap w) (hbd : Bd s) (h4 : 4096 ≤ s.next) (hf : Fresh μ s.next s'.next) (hr : RegR ω μ n r a)
    (hQ : ∀ μ' a' w', Ext μ μ' s.next s'.next → Rel ω B W0 μ' s'.heap w' → RegR ω μ' n r' a' → Q .normal a' w') : (Code.region id ops true).wp P Q a w := by
  obtain ⟨R, σ, D, e1, e2, e3, e4, hstep⟩ := evalDraw_seq _ _ _ _ _ _ h
  rw [befs_length] at e3 e4
  have hpa := pairs_all _ _ hp
  have hs : Seq P call n ops R σ D := by
    refine ⟨fun k o ho => hstep k o _ (befs_get ho), fun i k oi ok hik hi hk hb => ?_, fun k o ho e he hb => ?_, by rw [e2]; exact hbd, hcf⟩
    · refine (hpa k ok _ (befs_get hk)).1 i oi ?_ hb
      rw [List.nil_append, befs_map, List.getElem?_take, if_pos hik]
      simpa using hi
    · have := (hpa k o _ (befs_get ho)).2 e he hb
      simpa using this
  subst e1 e2 e3 e4
  refine wp_region_any hm (drawn_ok hω hc hs h4 (μ0 := μ) hQ ops.size (Array.replicate ops.size false) (T.filter (fun x => !(Nat.ble (σ 0).next x && Nat.blt x (σ ops.size).next)) (σ 0).heap) μ _ a (by simp) ?_ ?_)
  · have := List.countP_le_length (p := fun k => !(Array.replicate ops.size false).getD k false) (l := List.range ops.size)
    simpa using this
  · have no : ∀ k, ¬ ((Array.replicate ops.size false).getD k false = true) := by
      intro k
      rw [Array.getD_eq_getD_getElem?]
      by_cases hk : k < ops.size <;> simp [hk]
    refine ⟨(hR.congr fun x o hx _ => ?_).drawn _, Ext.refl _ _ _, fun x b o hb q1 q2 q3 q4 => ?_, fun k x hk _ hr => ⟨?_, ?_⟩, hr.size, hr.defers, fun t b hb q1 q2 => ?_, fun i k _ hS => absurd hS (no k)⟩
    · rw [T.get_filter] at hx
      split at hx
      · exact hx
      · cases hx
    · rw [T.get_filter]
      have hout : ¬ ((σ 0).next ≤ x ∧ x < (σ ops.size).next) := by
        intro c
        rcases q3 with q3 | q3
        · obtain ⟨k, hk, hr⟩ := rng_some hs b hb c.1 q3
          exact no k (q1 k hk (.inl hr))
        · omega
      rw [if_pos ?_]
      · rw [← q4]
        exact (hs.same b (by omega) hb fun j _ hj ht => no j (q1 j hj ht)).symm
      · simp only [Bool.not_eq_true', Bool.and_eq_false_iff]
        by_cases c : (σ 0).next ≤ x
        · right
          cases hb' : Nat.blt x (σ ops.size).next with
          | false => rfl
          | true => exact absurd ⟨c, Nat.le_of_ble_eq_true hb'⟩ hout
        · left
          cases hb' : Nat.ble (σ 0).next x with
          | false => rfl
          | true => exact absurd (Nat.le_of_ble_eq_true hb') c
    · have h1 := hs.next (i := 0) (k := k) (by omega) (by omega)
      have h2 := hs.next (i := k + 1) (k := ops.size) (by omega) (by omega)
      have := hr.1; have := hr.2
      rw [T.get_filter, if_neg]
      have a1 : Nat.ble (σ 0).next x = true := Nat.ble_eq_true_of_le (by omega)
      have a2 : Nat.blt x (σ ops.size).next = true := Nat.ble_eq_true_of_le (by omega)
      rw [a1, a2]; simp
    · have h1 := hs.next (i := 0) (k := k) (by omega) (by omega)
      have h2 := hs.next (i := k + 1) (k := ops.size) (by omega) (by omega)
      have := hr.1; have := hr.2
      exact hf x (by omega) (by omega)
    · have : ∀ b, b ≤ ops.size → (∀ k o, k < b → ops[k]? = some o → o.dst ≠ some t) → getR (R b) t = getR (R 0) t := by
        intro b
        induction b with
        | zero => intros; rfl
        | succ b ih =>
          intro hb hd
          obtain ⟨o, ho⟩ := Seq.has (ops := ops) b (by omega)
          rw [hs.keepR b o ho t (hd b o (by omega) ho)]
          exact ih (by omega) fun k o hk ho => hd k o (by omega) ho
      rw [this b hb fun k o hk ho hd => no k (q1 k o hk ho hd)]
      exact hr.vals t
end draw
end Go.Ev
