/- PART EvG4 of a proof by an evaluator of the model that is proved sound. -/
import Derived.Test.YtkaeneplpelgeaaGreatDoorEvG3
set_option linter.unusedVariables false
set_option linter.unusedSimpArgs false
namespace Go.Ev
open Go Go.RowKit
theorem pairs_all {ops : Array Oper} : ∀ (l : List (Oper × Nat)) (done : List Oper), pairsOk ops l done = true → ∀ k o b, l[k]? = some (o, b) →
    (∀ i d, (done ++ (l.take k).map (·.1))[i]? = some d → b.testBit i = false → d.apart ops o = true) ∧ (∀ e ∈ o.after.toList, Region.binds .any e = true → e.on < done.length + k)
  | [], _, _, k, o, b, hk => by simp at hk
  | (o, b) :: l, done, h, k, o', b', hk => by
    unfold pairsOk at h
    simp only [Bool.and_eq_true] at h
    obtain ⟨⟨⟨h1, _⟩, h2⟩, h3⟩ := h
    cases k with
    | zero =>
      simp only [List.getElem?_cons_zero, Option.some.injEq, Prod.mk.injEq] at hk
      obtain ⟨rfl, rfl⟩ := hk
      refine ⟨fun i d hd hb => ?_, fun e he hbn => ?_⟩
      · simp only [List.take_zero, List.map_nil, List.append_nil] at hd
        have := List.all_eq_true.1 h1 (d, i) (List.mem_zipIdx_iff_getElem?.2 hd)
        dsimp only at this
        rw [hb, Bool.false_or] at this
        exact this
      · have := List.all_eq_true.1 h2 e he
        rw [hbn] at this
        simp only [Bool.not_true, Bool.false_or] at this
        have := Nat.le_of_ble_eq_true this
        omega
    | succ k =>
      simp only [List.getElem?_cons_succ] at hk
      obtain ⟨q1, q2⟩ := pairs_all l _ h3 k o' b' hk
      refine ⟨fun i d hd hb => q1 i d ?_ hb, fun e he hbn => ?_⟩
      · simpa using hd
      · have := q2 e he hbn
        simp only [List.length_append, List.length_cons, List.length_nil] at this
        omega
theorem countP_less {α : Type} {p q : α → Bool} {i : α} (hp : p i = true) (hq : q i = false) (h : ∀ k, q k = true → p k = true) : ∀ l : List α, i ∈ l → l.countP q < l.countP p
  | [], hi => by cases hi
  | x :: l, hi => by
    rw [List.countP_cons, List.countP_cons]
    have hmono : l.countP q ≤ l.countP p := List.countP_mono_left fun k _ hk => h k hk
    rcases List.mem_cons.1 hi with rfl | hi
    · rw [hp, hq]; simp; omega
    · have := countP_less hp hq h l hi
      cases hx : q x with
      | true => rw [h x hx]; omega
      | false => simp; omega
section draw
variable {P : Program} {call : FuncId → List Value → E Value} {n : Nat} {ω : Nat → Value} {B : Nat} {W0 : World} {ops : Array Oper}
theorem befs_get {k : Nat} {o : Oper} (h : ops[k]? = some o) : (befs ops)[k]? = some (o, (Region.before ops).getD k 0) := by
  unfold befs
  have hk := lt_of_get h
  have hb : k < (Region.before ops).size := by rw [(before_bits ops).1]; exact hk
  rw [List.getElem?_zip_eq_some]
  refine ⟨by simpa using h, ?_⟩
  simp [hb]
theorem befs_length : (befs ops).length = ops.size := by
  unfold befs
  rw [List.length_zip, Array.length_toList, Array.length_toList, (before_bits ops).1, Nat.min_self]
theorem befs_map (k : Nat) : ((befs ops).take k).map (·.1) = ops.toList.take k := by
  have : (befs ops).map (·.1) = ops.toList := by
    unfold befs
    rw [List.map_fst_zip]
    rw [Array.length_toList, Array.length_toList, (before_bits ops).1]
    exact Nat.le_refl _
  rw [List.map_take, this]
theorem rng_some {R : Nat → Regs} {σ : Nat → St} {D : Nat → Done} (hs : Seq P call n ops R σ D) {x : Nat} : ∀ b, b ≤ ops.size → (σ 0).next ≤ x → x < (σ b).next → ∃ k, k < b ∧ rng σ k x := by
  intro b
  induction b with
  | zero => intro _ h1 h2; omega
  | succ b ih =>
    intro hb h1 h2
    by_cases c : x < (σ b).next
    · obtain ⟨k, hk, hr⟩ := ih (by omega) h1 c
      exact ⟨k, by omega, hr⟩
    · exact ⟨b, by omega, by omega, h2⟩
theorem drawn_ok {Q : Exit → Act → World → Prop} {R : Nat → Regs} {σ : Nat → St} {D : Nat → Done} {μ0 : Mp} (hω : ∀ k, (ω k).oneCell' = true) (hc : CallsOk P ω B W0 call) (hs : Seq P call n ops R σ D) (h4 : 4096 ≤ (σ 0).next)
    (hQ : ∀ μ' a' w', Ext μ0 μ' (σ 0).next (σ ops.size).next → Rel ω B W0 μ' (σ ops.size).heap w' → RegR ω μ' n (R ops.size) a' → Q .normal a' w') :
    ∀ (fuel : Nat) (listed : Array Bool) (τ : T AObj) (μ : Mp) (w : World) (a : Act), listed.size = ops.size → (List.range ops.size).countP (fun k => !listed.getD k false) ≤ fuel →
      Inv ω B W0 n ops R σ D (fun k => listed.getD k false = true) τ μ0 μ w a → wpAny P .any ops Q fuel listed a w := by
  have hlist : ∀ (listed : Array Bool) k, listed.size = ops.size → k < ops.size → listed.getD k true = listed.getD k false := by
    intro listed k h1 h2
    rw [Array.getD_eq_getD_getElem?, Array.getD_eq_getD_getElem?, Array.getElem?_eq_getElem (by omega)]
    rfl
  have full : ∀ (listed : Array Bool) (τ : T AObj) (μ : Mp) (w : World) (a : Act), (∀ k, k < ops.size → listed.getD k false = true) → Inv ω B W0 n ops R σ D (fun k => listed.getD k false = true) τ μ0 μ w a → Q .normal a w := by
    intro listed τ μ w a hall h
    refine hQ μ a w h.ext (h.rel.congr fun x o hx _ => h.heap x ops.size o (Nat.le_refl _) (fun k hk _ => hall k hk) (fun k h1 h2 => by omega) (by omega) hx) ⟨h.size, h.defers, fun t => ?_⟩
    exact h.regs t ops.size (Nat.le_refl _) (fun k o hk _ _ => hall k hk) (fun k o hk ho => by have := lt_of_get ho; omega)
  have none_ready : ∀ (listed : Array Bool), listed.size = ops.size → Region.ready .any ops listed = [] → ∀ k, k < ops.size → listed.getD k false = true := by
    intro listed hsz hr k
    induction k using Nat.strongRecOn with
    | _ k ih =>
      intro hk
      cases hg : listed.getD k false with
      | true => rfl
      | false =>
        obtain ⟨o, ho⟩ := Seq.has k hk
        have : k ∈ Region.ready .any ops listed := by
          rw [mem_ready]
          refine ⟨by rw [hlist listed k hsz hk]; exact hg, o, ho, fun e he hb => ?_⟩
          have hlt := hs.edges k o ho e (by simpa using he) hb
          exact ih e.on hlt (by omega)
        rw [hr] at this
        cases this
  intro fuel
  induction fuel with
  | zero =>
    intro listed τ μ w a hsz hcnt h
    have hall : ∀ k, k < ops.size → listed.getD k false = true := by
      intro k hk
      have : (List.range ops.size).countP (fun k => !listed.getD k false) = 0 := by omega
      rw [List.countP_eq_zero] at this
      have := this k (by simpa using hk)
      simpa using this
    refine ⟨?_, full listed τ μ w a hall h⟩
    cases hr : Region.ready .any ops listed with
    | nil => rfl
    | cons i l =>
      exfalso
      have hm : i ∈ Region.ready .any ops listed := by rw [hr]; simp
      rw [mem_ready] at hm
      obtain ⟨h0, o, ho, _⟩ := hm
      have hk := lt_of_get ho
      rw [hlist listed i hsz hk, hall i hk] at h0
      cases h0
  | succ fuel ih =>
    intro listed τ μ w a hsz hcnt h
    refine ⟨fun hr => full listed τ μ w a (none_ready listed hsz hr) h, fun i hi => ?_⟩
    rw [mem_ready] at hi
    obtain ⟨h0, o, ho, hed⟩ := hi
    have hk := lt_of_get ho
    rw [hlist listed i hsz hk] at h0
    refine h.step hω hc hs h4 ho (by rw [h0]; simp) (fun j hj => ?_) (fun τ' μ' w' a' h' => ?_)
    · obtain ⟨e, he, hb, h'⟩ := (before_bits ops).2 i o ho j hj
      have hl := hed e (by simpa using he) hb
      rcases h' with rfl | ⟨h1, h2⟩
      · exact hl
      · exact h.closed j e.on (by omega) hl h2
    · have hS : (fun k => listed.getD k false = true ∨ k = i) = fun k => (listed.setIfInBounds i true).getD k false = true := by
        funext k
        refine propext ⟨fun hor => ?_, fun hg => ?_⟩
        · rcases hor with hor | rfl
          · exact getD_set_true hor
          · simp [Array.getD_eq_getD_getElem?, hsz, hk]
        · by_cases e : i = k
          · exact .inr e.symm
          · rw [getD_set_ne false e] at hg
            exact .inl hg
      rw [hS] at h'
      refine ih (listed.setIfInBounds i true) τ' μ' w' a' (by simpa using hsz) ?_ h'
      have := countP_less (p := fun k => !listed.getD k false) (q := fun k => !(listed.setIfInBounds i true).getD k false) (i := i) (by rw [h0]; rfl) (by simp [Array.getD_eq_getD_getElem?, hsz, hk]) (fun k hq => by
        cases hl : listed.getD k false with
        | false => rfl
        | true => rw [getD_set_true hl] at hq; cases hq) (List.range ops.size) (by simpa using hk)
      omega
theorem region_draw_ok {Q : Exit → Act → World → Prop} {r r' : Regs} {s s' : St} {μ : Mp} {w : World} {a : Act} {id : Nat} (hm : P.follows .mixedOrders = true) (hω : ∀ k, (ω k).oneCell' = true) (hc : CallsOk P ω B W0 call) (hcf : ∀ f as, Fr (call f as))
    (hp : pairsOk ops (befs ops) [] = true) (h : evalDraw P call n ops.toList (befs ops) [] r s = some (r', s')) (hR : Rel ω B W0 μ s.heap w) (hbd : Bd s) (h4 : 4096 ≤ s.next) (hf : Fresh μ s.next s'.next) (hr : RegR ω μ n r a)
    (hQ : ∀ μ' a' w', Ext μ μ' s.next s'.next → Rel ω B W0 μ' s'.heap w' → RegR ω μ' n r' a' → Q .normal a' w') : (Code.region id ops true).wp P Q a w := by
  obtain ⟨R, σ, D, e1, e2, e3, e4, hstep⟩ := evalDraw_seq _ _ _ _ _ _ h
  rw [befs_length] at e3 e4
  have hpa := pairs_all _ _ hp
  have hs : Seq P call n ops R σ D := by
    refine ⟨fun k o ho => hstep k o _ (befs_get ho), fun i k oi ok hik hi hk hb => ?_, fun k o ho e he hb => ?_, by rw [e2]; exact hbd, hcf⟩
    · refine (hpa k ok _ (befs_get hk)).1 i oi ?_ hb
      rw [List.nil_append, befs_map, List.getElem?_take, if_pos hik]
      simpa using hi
    · have := (hpa k o _ (befs_get ho)).2 e he hb
      simpa using this
  subst e1 e2 e3 e4
  refine wp_region_any hm (drawn_ok hω hc hs h4 (μ0 := μ) hQ ops.size (Array.replicate ops.size false) (T.filter (fun x => !(Nat.ble (σ 0).next x && Nat.blt x (σ ops.size).next)) (σ 0).heap) μ _ a (by simp) ?_ ?_)
  · have := List.countP_le_length (p := fun k => !(Array.replicate ops.size false).getD k false) (l := List.range ops.size)
    simpa using this
  · have no : ∀ k, ¬ ((Array.replicate ops.size false).getD k false = true) := by
      intro k
      rw [Array.getD_eq_getD_getElem?]
      by_cases hk : k < ops.size <;> simp [hk]
    refine ⟨(hR.congr fun x o hx _ => ?_).drawn _, Ext.refl _ _ _, fun x b o hb q1 q2 q3 q4 => ?_, fun k x hk _ hr => ⟨?_, ?_⟩, hr.size, hr.defers, fun t b hb q1 q2 => ?_, fun i k _ hS => absurd hS (no k)⟩
    · rw [T.get_filter] at hx
      split at hx
      · exact hx
      · cases hx
    · rw [T.get_filter]
      have hout : ¬ ((σ 0).next ≤ x ∧ x < (σ ops.size).next) := by
        intro c
        rcases q3 with q3 | q3
        · obtain ⟨k, hk, hr⟩ := rng_some hs b hb c.1 q3
          exact no k (q1 k hk (.inl hr))
        · omega
      rw [if_pos ?_]
      · rw [← q4]
        exact (hs.same b (by omega) hb fun j _ hj ht => no j (q1 j hj ht)).symm
      · simp only [Bool.not_eq_true', Bool.and_eq_false_iff]
        by_cases c : (σ 0).next ≤ x
        · right
          cases hb' : Nat.blt x (σ ops.size).next with
          | false => rfl
          | true => exact absurd ⟨c, Nat.le_of_ble_eq_true hb'⟩ hout
        · left
          cases hb' : Nat.ble (σ 0).next x with
          | false => rfl
          | true => exact absurd (Nat.le_of_ble_eq_true hb') c
    · have h1 := hs.next (i := 0) (k := k) (by omega) (by omega)
      have h2 := hs.next (i := k + 1) (k := ops.size) (by omega) (by omega)
      have := hr.1; have := hr.2
      rw [T.get_filter, if_neg]
      have a1 : Nat.ble (σ 0).next x = true := Nat.ble_eq_true_of_le (by omega)
      have a2 : Nat.blt x (σ ops.size).next = true := Nat.ble_eq_true_of_le (by omega)
      rw [a1, a2]; simp
    · have h1 := hs.next (i := 0) (k := k) (by omega) (by omega)
      have h2 := hs.next (i := k + 1) (k := ops.size) (by omega) (by omega)
      have := hr.1; have := hr.2
      exact hf x (by omega) (by omega)
    · have : ∀ b, b ≤ ops.size → (∀ k o, k < b → ops[k]? = some o → o.dst ≠ some t) → getR (R b) t = getR (R 0) t := by
        intro b
        induction b with
        | zero => intros; rfl
        | succ b ih =>
          intro hb hd
          obtain ⟨o, ho⟩ := Seq.has (ops := ops) b (by omega)
          rw [hs.keepR b o ho t (hd b o (by omega) ho)]
          exact ih (by omega) fun k o hk ho => hd k o (by omega) ho
      rw [this b hb fun k o hk ho hd => no k (q1 k o hk ho hd)]
      exact hr.vals t
end draw
end Go.Ev
