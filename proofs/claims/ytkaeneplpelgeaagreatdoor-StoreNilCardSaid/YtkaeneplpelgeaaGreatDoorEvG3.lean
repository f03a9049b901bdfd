/- PART EvG3 of a proof by an evaluator of the model that is proved sound. -/
import Derived.Test.YtkaeneplpelgeaaGreatDoorEvG2
set_option linter.unusedVariables false
set_option linter.unusedSimpArgs false
namespace Go.Ev
open Go Go.RowKit
section step
variable {P : Program} {call : FuncId → List Value → E Value} {n : Nat} {ω : Nat → Value} {B : Nat} {W0 : World} {ops : Array Oper} {R : Nat → Regs} {σ : Nat → St} {D : Nat → Done}
variable {S : Nat → Prop} {τ : T AObj} {μ0 μ : Mp} {w : World} {a : Act}
theorem Ext.wide {μ μ' : Mp} {a b a' b' : Nat} (h : Ext μ μ' a b) (h1 : a' ≤ a) (h2 : b ≤ b') : Ext μ μ' a' b' := ⟨h.1, fun x hx hr => h.2 x hx (by omega)⟩
theorem Ext.then {μ μ' μ'' : Mp} {a b : Nat} (h : Ext μ μ' a b) (h' : Ext μ' μ'' a b) : Ext μ μ'' a b := ⟨fun x l e => h'.1 x l (h.1 x l e), fun x e hn => h'.2 x (h.2 x e hn) hn⟩
theorem Inv.step {Q : Exit → Act → World → Prop} {K : Act → World → Prop} (hω : ∀ k, (ω k).oneCell' = true) (hc : CallsOk P ω B W0 call) (hs : Seq P call n ops R σ D) (h4 : 4096 ≤ (σ 0).next)
    (h : Inv ω B W0 n ops R σ D S τ μ0 μ w a) {i : Nat} {oi : Oper} (hi : ops[i]? = some oi) (hn : ¬ S i) (hb : ∀ j, bit ops j i = true → S j)
    (hK : ∀ τ' μ' w' a', Inv ω B W0 n ops R σ D (fun k => S k ∨ k = i) τ' μ0 μ' w' a' → K a' w') : wpOp P ops Q i K a w := by
  have hlt := lt_of_get hi
  unfold wpOp
  rw [hi]
  dsimp only
  have hwant : ∀ b, wanted ops.toList oi (R i) = some b → Region.wanted oi (yielded ops a.tmps) = b := fun b hb' =>
    wanted_ok' (μ := μ) (ω := ω) (fun j want d hg hd => h.look hs hi hn hb (guard_looks hg hd)) hb'
  have hclosed : ∀ j k, k < ops.size → (S k ∨ k = i) → bit ops j k = true → (S j ∨ j = i) := by
    intro j k hk hS hbit
    rcases hS with hS | rfl
    · exact .inl (h.closed j k hk hS hbit)
    · exact .inl (hb j hbit)
  rcases (hs.step i oi hi).inv with ⟨h1, h2, h3, h5⟩ | ⟨v, s1, deny, h1, h2, h3, harm, h5, h6, h7, h8⟩
  · -- left out by its guard
    rw [hwant _ h1]
    simp only [Bool.false_eq_true, if_false]
    obtain ⟨g1, g2, g3⟩ := h.regs' hs hi hn (μ' := μ) (fun _ _ e => e) h2 (hs.keepR) VR.undef
    have hno : ∀ x, ¬ touches σ D i x := by
      intro x hx
      rcases hx with hx | hx
      · unfold rng at hx; rw [h3] at hx; omega
      · have := hx.1; rw [h5] at this; exact this.1 rfl
    refine hK τ μ w _ ⟨h.rel, h.ext, fun x b o hbn q1 q2 q3 q4 => ?_, fun k x hk hnS hr => h.new k x hk (fun c => hnS (.inl c)) hr, g1, g2, g3, hclosed⟩
    refine h.heap x b o hbn (fun k hk ht => (q1 k hk ht).resolve_right ?_) (fun k hk hkn ht c => q2 k hk hkn ht (.inl c)) q3 q4
    rintro rfl
    exact hno x ht
  · rw [hwant _ h1]
    simp only [if_true]
    left
    have st := (Fr.armOf oi.op hs.fr).step _ _ _ harm
    have hmi : (σ i).mask = (σ 0).mask := hs.mask (by omega)
    have hvis : ∀ x, vis σ D i x ↔ masked ⟨deny ++ (σ i).mask.deny, opIds oi.op (ev (R i))⟩ x = false := by
      intro x; unfold vis; rw [h8, hmi]
    have hnx : (σ (i + 1)).next = s1.next := by rw [h7]
    have hhx : (σ (i + 1)).heap = s1.heap := by rw [h7]
    have hbi := hs.bd (k := i) (by omega)
    have behind : ∀ x p, (σ i).heap.get x = some p → vis σ D i x → x < (σ i).next := by
      intro x p hp hv
      refine Decidable.byContradiction fun c => ?_
      have := hbi x p (by omega) hp
      rw [hvis] at hv
      unfold masked at this hv
      rw [h3] at this
      rw [denied_append] at hv
      simp only [Bool.or_false] at this
      rw [this] at hv
      simp at hv
    -- the text's run, on the heap as it is
    obtain ⟨NB, hNB⟩ := T.bound τ
    obtain ⟨H2, hrun, hag, hkp⟩ := st.rerun τ ⟨(s1.next, NB) :: (deny ++ (σ i).mask.deny), opIds oi.op (ev (R i))⟩ rfl (by
      intro x hx hor
      rw [masked_false] at hx ⊢
      refine ⟨?_, hx.2⟩
      cases hd : denied ((s1.next, NB) :: (deny ++ (σ i).mask.deny)) x with
      | false => rfl
      | true =>
        rw [denied_cons] at hd
        rcases hd with hd | hd
        · exfalso
          rcases hor with hor | hor
          · obtain ⟨p, hp⟩ := Option.ne_none_iff_exists'.1 hor
            have := behind x p hp ((hvis x).2 (masked_false.2 hx))
            have := st.next
            dsimp only at *
            omega
          · omega
        · exact absurd hd (by rw [hx.1]; simp)) (by
      intro x p hx hp
      have hv := (hvis x).2 hx
      have hxn := behind x p hp hv
      refine h.heap x i p (by omega) (fun k hk ht => ?_) (fun k hk hkn ht hS => ?_) (.inl hxn) hp
      · by_cases c : bit ops k i = true
        · exact hb k c
        · exact absurd hv (hs.k2 hk hlt (by simpa using c) ht)
      · by_cases e : i = k
        · subst e; exact hn hS
        · have hik : i < k := by omega
          by_cases c : bit ops i k = true
          · exact hn (h.closed i k hkn hS c)
          · rcases ht with ht | ht
            · have := hs.next (i := i) (k := k) (by omega) (by omega)
              have := ht.1
              omega
            · exact hs.k3 hik hkn (by simpa using c) ht hv) (fun x h1 h2 => (h.new i x hlt hn ⟨h1, by rw [hnx]; exact h2⟩).1)
    -- with operands of its own
    obtain ⟨ρ₁, hρ₁, hρ₂⟩ : ∃ ρ₁ : Operand → Value, (∀ x ∈ oi.op.operands, ev (R i) x = ρ₁ x) ∧ ∀ x, x ∉ oi.op.operands → ρ₁ x = .chan none := by
      classical
      exact ⟨fun x => if x ∈ oi.op.operands then ev (R i) x else .chan none, fun x hx => by simp only [if_pos hx], fun x hx => by simp only [if_neg hx]⟩
    have hVR : ∀ x, VR ω μ (ρ₁ x) (a.eval x) := by
      intro x
      by_cases hx : x ∈ oi.op.operands
      · rw [← hρ₁ x hx]
        refine ev_ok' (fun t e => ?_) h.rel.glob
        subst e
        exact h.look hs hi hn hb (tmp_looks hx)
      · rw [hρ₂ x hx]
        exact .junk _
    rw [armOf_congr oi.op hρ₁] at hrun
    have hni := hs.next (i := 0) (k := i) (by omega) (by omega)
    have hfresh : Fresh μ (σ i).next s1.next := fun x q1 q2 => (h.new i x hlt hn ⟨q1, by rw [hnx]; exact q2⟩).2
    have hdoes := armOf_ok (o := oi) (ρ' := a.eval) (s := { heap := τ, next := (σ i).next, low := (σ i).next, mask := ⟨(s1.next, NB) :: (deny ++ (σ i).mask.deny), opIds oi.op (ev (R i))⟩ }) (s' := { heap := H2, next := s1.next, low := s1.low, mask := ⟨(s1.next, NB) :: (deny ++ (σ i).mask.deny), opIds oi.op (ev (R i))⟩ }) hω hc (by
      intro x p hx hp
      dsimp only at hx hp ⊢
      have hxNB : x < NB := by
        refine Decidable.byContradiction fun c => ?_
        rw [hNB x (by omega)] at hp
        cases hp
      have hx1 : s1.next ≤ x := by
        refine Decidable.byContradiction fun c => ?_
        rw [(h.new i x hlt hn ⟨hx, by rw [hnx]; omega⟩).1] at hp
        cases hp
      unfold masked
      rw [(denied_cons _ _ _ _).2 (.inl ⟨hx1, hxNB⟩)]
      rfl) hrun hVR h.rel (by dsimp only; omega) hfresh
    refine wp_of_does hdoes fun u w' hpost => ?_
    obtain ⟨μ', he, hR', hv⟩ := hpost
    obtain ⟨g1, g2, g3⟩ := h.regs' hs hi hn he.1 h6 hs.keepR hv
    have hsn : s1.next ≤ (σ ops.size).next := by rw [← hnx]; exact hs.next (by omega) (Nat.le_refl _)
    have notouch : ∀ x, ¬ touches σ D i x → masked ⟨deny ++ (σ i).mask.deny, opIds oi.op (ev (R i))⟩ x = true ∨ (σ i).heap.get x = none ∨ x < s1.low := by
      intro x hx
      by_cases hvx : vis σ D i x
      · right
        by_cases hx0 : (σ i).heap.get x = none
        · exact .inl hx0
        · obtain ⟨p, hp⟩ := Option.ne_none_iff_exists'.1 hx0
          have hxn := behind x p hp hvx
          right
          refine Decidable.byContradiction fun hlo => hx (.inr ⟨?_, hvx, hxn⟩)
          rw [h8]
          exact wroteOf_low (by omega) hxn
      · left
        rw [hvis] at hvx
        simpa using hvx
    refine hK H2 μ' w' _ ⟨hR', h.ext.then (he.wide hni hsn), fun x b o hbn q1 q2 q3 q4 => ?_, fun k x hk hnS hr => ?_, g1, g2, g3, hclosed⟩
    · by_cases ht : touches σ D i x
      · have hib : i < b := by
          refine Decidable.byContradiction fun c => ?_
          exact q2 i (by omega) hlt ht (.inr rfl)
        have e : (σ b).heap.get x = (σ (i + 1)).heap.get x := by
          refine hs.same b (by omega) hbn fun j hj1 hj2 htj => ?_
          have hSj := (q1 j hj2 htj).resolve_right (by omega)
          have hjn : j < ops.size := by omega
          by_cases c : bit ops i j = true
          · exact hn (h.closed i j hjn hSj c)
          · have nv := hs.k2 (by omega) hjn (by simpa using c) ht
            rcases htj with htj | htj
            · have hx2 : x < (σ j).next := by
                have := hs.next (i := i + 1) (k := j) (by omega) (by omega)
                have := hs.next (i := i) (k := j) (by omega) (by omega)
                rcases ht with ht | ht
                · have := ht.2; omega
                · have := ht.2.2; omega
              have := htj.1
              omega
            · exact nv htj.2.1
        rw [e, hhx] at q4
        refine hag x o ?_ q4
        rcases ht with ht | ht
        · exact .inr ⟨ht.1, by rw [← hnx]; exact ht.2⟩
        · exact .inl ((hvis x).1 ht.2.1)
      · rw [hkp x (fun c => ht (.inl ⟨c.1, by rw [hnx]; exact c.2⟩)) (notouch x ht)]
        refine h.heap x b o hbn (fun k hk htk => (q1 k hk htk).resolve_right ?_) (fun k hk hkn htk c => q2 k hk hkn htk (.inl c)) q3 q4
        rintro rfl
        exact ht htk
    · have hki : k ≠ i := fun e => hnS (.inr e)
      have hnSk : ¬ S k := fun c => hnS (.inl c)
      have hout : ¬ ((σ i).next ≤ x ∧ x < s1.next) := by
        intro c
        rcases Nat.lt_or_gt_of_ne hki with hlt' | hgt
        · have := hs.next (i := k + 1) (k := i) (by omega) (by omega)
          have := hr.2
          omega
        · have := hs.next (i := i + 1) (k := k) (by omega) (by omega)
          have := hr.1
          omega
      have hnone := h.new k x hk hnSk hr
      refine ⟨?_, he.2 x hnone.2 hout⟩
      rw [hkp x hout ?_]
      · exact hnone.1
      · rcases Nat.lt_or_gt_of_ne hki with hlt' | hgt
        · left
          have c : ¬ bit ops k i = true := fun c => hnSk (hb k c)
          have := hs.k2 hlt' hlt (by simpa using c) (.inl hr)
          rw [hvis] at this
          simpa using this
        · by_cases hx0 : (σ i).heap.get x = none
          · exact .inr (.inl hx0)
          · left
            obtain ⟨p, hp⟩ := Option.ne_none_iff_exists'.1 hx0
            have : ¬ vis σ D i x := by
              intro hv
              have := behind x p hp hv
              have := hs.next (i := i) (k := k) (by omega) (by omega)
              have := hr.1
              omega
            rw [hvis] at this
            simpa using this
end step
end Go.Ev
