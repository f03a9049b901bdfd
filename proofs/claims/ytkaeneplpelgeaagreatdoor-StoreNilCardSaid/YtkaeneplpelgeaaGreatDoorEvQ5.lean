/- PART EvQ5 of a proof by an evaluator of the model that is proved sound. -/
import Derived.Test.YtkaeneplpelgeaaGreatDoorEvQ4
set_option linter.unusedVariables false
set_option linter.unusedSimpArgs false
namespace Go.Ev
open Go Go.RowKit
section ops
variable {P : Program} {ω : Nat → Value} {B : Nat} {W0 : World} {μ : Mp} {w : World} {s s' : St} {call : FuncId → List Value → E Value} {ρ ρ' : Operand → Value}

theorem armBuildSlice_ok {t : TypeId} {n : Nat} {ps : Array (Nat × Operand)} {v : Value} (hω : ∀ k, (ω k).oneCell' = true) (h : armBuildSlice t n ps P call ρ s = some (v, s')) (hρ : ∀ x, VR ω μ (ρ x) (ρ' x)) (hR : Rel ω B W0 μ s.heap w) (h4 : 4096 ≤ s.next) (hf : Fresh μ s.next s'.next) :
    Gives P (Instr.buildSlice t n (ps.map fun (i, x) => (i, ρ' x))) w (Post ω B W0 μ s s' v) := by
  unfold armBuildSlice at h
  obtain ⟨e, s1, h1, h2⟩ := bind_inv h
  obtain ⟨he, rfl⟩ := opt_inv h1
  obtain ⟨z, s2, h3, h5⟩ := bind_inv h2
  obtain ⟨hz, rfl⟩ := opt_inv h3
  obtain ⟨zero, s3, h6, h7⟩ := bind_inv h5
  obtain ⟨hzero, rfl⟩ := opt_inv h6
  obtain ⟨hg, h8⟩ := guard_inv h7
  simp only [Bool.or_eq_false_iff, Bool.not_eq_false'] at hg
  obtain ⟨hg1, hg2⟩ := hg
  have hg1 : n * z < 1000000 := by
    rw [ble_dec] at hg1
    have := of_decide_eq_false hg1
    omega
  obtain ⟨cells, s4, h9, h10⟩ := bind_inv h8
  obtain ⟨hfl, rfl⟩ := opt_inv h9
  obtain ⟨y, s5, h11, h12⟩ := bind_inv h10
  obtain ⟨rfl, rfl⟩ := nw_inv h11
  obtain ⟨rfl, rfl⟩ := pure_inv h12
  have hu := sliceElem_inv he
  -- the zero cells
  have hzz : zero.all flat = true ∧ zero.length = n * z ∧ ∃ zc : Array Value, ((n * z = 0 ∧ zc = #[]) ∨ (n * z ≠ 0 ∧ ∃ zv, zero? P e = some zv ∧ zv.cells = zc)) ∧ ((Array.range (n * z)).map (fun j => zc[j % zc.size]!)).toList = zero := by
    cases hb : Nat.beq (n * z) 0 with
    | true =>
      rw [hb] at hzero
      have h0 : n * z = 0 := Nat.eq_of_beq_eq_true hb
      have hz' : some [] = some zero := hzero
      cases hz'
      refine ⟨rfl, by simp [h0], #[], .inl ⟨h0, rfl⟩, ?_⟩
      rw [h0, Array.toList_map, Array.toList_range]; rfl
    | false =>
      rw [hb] at hzero
      have h0 : n * z ≠ 0 := by intro h0; rw [h0] at hb; cases hb
      obtain ⟨zv, hz1, hz2, hz3, rfl⟩ := zeros_inv (show zeros P e n z = some zero from hzero)
      refine ⟨flat_flatten hz3 n, by simp [List.length_flatten, hz2], zv.cells, .inr ⟨h0, zv, hz1, rfl⟩, ?_⟩
      · rw [← hz2]
        exact replicate_flat zv.cells n (by rw [hz2]; exact Nat.pos_of_ne_zero (fun h => h0 (by rw [h]; simp)))
  obtain ⟨hz1, hz2, zc, hzr, hzl⟩ := hzz
  obtain ⟨r', hr', hv⟩ := fill_ok (ω := ω) (μ := μ) (c' := zero.toArray) hfl (ps' := ps.toList.map fun (i, x) => (i, ρ' x)) (by simp) (parts_ok hω hρ ps.toList hg2) (by simpa using VRs.refl_flat hz1)
  have hrsz : r'.size = n * z := by
    have hlen : ∀ (pl : Nat → Option (Nat × Nat)) (ps : List (Nat × Value)) (c r : Array Value), Instr.fill pl c ps = some r → r.size = c.size := by
      intro pl ps
      induction ps with
      | nil => intro c r h; simp only [Instr.fill, Option.some.injEq] at h; rw [h]
      | cons p ps ih =>
        intro c r h
        obtain ⟨i, v⟩ := p
        simp only [Instr.fill] at h
        cases hpl : pl i with
        | none => rw [hpl] at h; cases h
        | some oz =>
          rw [hpl] at h
          dsimp only at h
          split at h
          · cases h
          · rw [ih _ _ h]
            have : ∀ (l : List (Value × Nat)) (d : Array Value), (l.foldl (fun cs p => cs.setIfInBounds (oz.1 + p.2) p.1) d).size = d.size := by
              intro l
              induction l with
              | nil => intro d; rfl
              | cons a l ih => intro d; rw [List.foldl_cons, ih]; simp
            show (Array.foldl (fun cs (x : Value × Nat) => cs.setIfInBounds (oz.1 + x.2) x.1) c v.cells.zipIdx).size = _
            rw [← Array.foldl_toList]; exact this _ _
    rw [hlen _ _ _ _ hr']; simpa using hz2
  have hrun : (Instr.buildSlice t n (ps.map fun (i, x) => (i, ρ' x))).run P w = .ok (.slice (some ⟨w.heap.size, 0, none⟩) n n) (w.alloc (.cells r' e)) := by
    unfold Instr.buildSlice
    rw [Sem.run_bind, run_und w hu, Result.andThen_ok]
    dsimp only
    rw [Sem.run_bind, run_size w hz, Result.andThen_ok, Sem.run_ite, if_neg (by omega)]
    have e1 : ((Array.range (n * z)).map (fun j => zc[j % zc.size]!)) = zero.toArray := by rw [← hzl]
    have e2 : Instr.fill (fun i => some (i * z, z)) zero.toArray (ps.map fun (i, x) => (i, ρ' x)).toList = some r' := by simpa using hr'
    rcases hzr with ⟨h0, rfl⟩ | ⟨h0, zv, hz1, rfl⟩
    · rw [Sem.run_ite, if_pos h0]
      rw [Sem.run_bind, Sem.run_pure, Result.andThen_ok, e1, e2]
      rfl
    · rw [Sem.run_ite, if_neg h0]
      rw [Sem.run_bind, run_zero w hz1, Result.andThen_ok, Sem.run_bind, Sem.run_pure, Result.andThen_ok, e1, e2]
      rfl
  refine Gives.of_run hrun ?_
  have hp := newSlice_ok (e := e) (e' := e) (c := cells.toList) (us := r'.toList) (rest := []) (n := n) (k := n) (z := z) (s := s4) hR h4 (hf _ (Nat.le_refl _) (by dsimp only; omega)) hv (Nat.le_refl _) (by simp [hrsz])
  simpa using hp

theorem bound_inv {d m j : Nat} {x : Option Operand} (h : bound? d m (x.map ρ) = some j) (hρ : ∀ x, VR ω μ (ρ x) (ρ' x)) :
    j ≤ m ∧ ((x = none ∧ j = d) ∨ ∃ y k, x = some y ∧ ρ' y = .int k j) := by
  unfold bound? at h
  cases x with
  | none =>
    have h' : (bif Nat.ble d m then some d else none) = some j := h
    cases hb : Nat.ble d m with
    | false => rw [hb] at h'; cases h'
    | true => rw [hb] at h'; cases h'; exact ⟨Nat.le_of_ble_eq_true hb, .inl ⟨rfl, rfl⟩⟩
  | some y =>
    simp only [Option.map_some] at h
    have hy := hρ y
    split at h
    · rename_i k i hr
      cases hb : Nat.ble i m with
      | false => rw [hb] at h; cases h
      | true =>
        rw [hb] at h; cases h
        rw [hr] at hy
        exact ⟨Nat.le_of_ble_eq_true hb, .inr ⟨y, k, rfl, VR.flat rfl hy⟩⟩
    · cases h
theorem run_bounds {isS : Bool} {len cap h l : Nat} {lo hi : Option Operand} (hh : h ≤ cap) (hl : l ≤ h) (hhi : (hi = none ∧ h = len) ∨ ∃ y k, hi = some y ∧ ρ' y = .int k h) (hlo : (lo = none ∧ l = 0) ∨ ∃ y k, lo = some y ∧ ρ' y = .int k l) :
    (Instr.sliceBounds isS len cap (lo.map ρ') (hi.map ρ') none).run P w = .ok (l, h, cap) w := by
  have hb : ∀ (x y : Nat) (v : Value) (k : IntKind) (c : BoundsCode), v = .int k x → x ≤ y → (Instr.sliceBound v y c).run P w = .ok x w := by
    intro x y v k c hv hxy
    subst hv
    simp [Instr.sliceBound, asIntOf, hxy]
  unfold Instr.sliceBounds
  rcases hhi with ⟨rfl, rfl⟩ | ⟨y, k, rfl, hy⟩ <;> rcases hlo with ⟨rfl, rfl⟩ | ⟨z, j, rfl, hz⟩
  · simp
  · simp [hb l h _ j _ hz hl]
  · simp [hb h cap _ k _ hy hh]
  · simp [hb h cap _ k _ hy hh, hb l h _ j _ hz hl]
theorem run_bounds3 {isS : Bool} {len cap c h l : Nat} {lo hi mx : Option Operand} (hc : c ≤ cap) (hh : h ≤ c) (hl : l ≤ h) (hmx : (mx = none ∧ c = len) ∨ ∃ y k, mx = some y ∧ ρ' y = .int k c) (hhi : (hi = none ∧ h = len) ∨ ∃ y k, hi = some y ∧ ρ' y = .int k h)
    (hlo : (lo = none ∧ l = 0) ∨ ∃ y k, lo = some y ∧ ρ' y = .int k l) (h1 : mx.isSome = true := by rfl) (h2 : hi.isSome = true := by rfl) :
    (Instr.sliceBounds isS len cap (lo.map ρ') (hi.map ρ') (mx.map ρ')).run P w = .ok (l, h, c) w := by
  have hb : ∀ (x y : Nat) (v : Value) (k : IntKind) (c : BoundsCode), v = .int k x → x ≤ y → (Instr.sliceBound v y c).run P w = .ok x w := by
    intro x y v k c hv hxy
    subst hv
    simp [Instr.sliceBound, asIntOf, hxy]
  unfold Instr.sliceBounds
  rcases hmx with ⟨rfl, _⟩ | ⟨ym, km, rfl, hym⟩
  · cases h1
  rcases hhi with ⟨rfl, _⟩ | ⟨y, k, rfl, hy⟩
  · cases h2
  rcases hlo with ⟨rfl, rfl⟩ | ⟨z, j, rfl, hz⟩
  · simp [hb c cap _ km _ hym hc, hb h c _ k _ hy hh]
  · simp [hb c cap _ km _ hym hc, hb h c _ k _ hy hh, hb l h _ j _ hz hl]
theorem armSlice_ok {t : TypeId} {x : Operand} {lo hi mx : Option Operand} {v : Value} (h : armSlice t x lo hi mx P call ρ s = some (v, s')) (hρ : ∀ x, VR ω μ (ρ x) (ρ' x)) (hR : Rel ω B W0 μ s.heap w) :
    Gives P (Instr.sliceAt t (ρ' x) (lo.map ρ') (hi.map ρ') (mx.map ρ')) w (Post ω B W0 μ s s' v) := by
  unfold armSlice at h
  cases mx with
  | some m =>
    dsimp only at h
    obtain ⟨d, s1, h1, h2⟩ := bind_inv h
    obtain ⟨hu, rfl⟩ := opt_inv h1
    have hx := hρ x
    obtain ⟨mm, hmm, hh⟩ := app h2
    clear h2
    split at hmm <;> subst hmm
    case h_2 => cases hh
    rename_i e base n k hrx
    obtain ⟨z, s8, h10, h11⟩ := bind_inv hh
    obtain ⟨hz, rfl⟩ := opt_inv h10
    obtain ⟨cb, s2, h3, h4⟩ := bind_inv h11
    obtain ⟨hcb, rfl⟩ := opt_inv h3
    obtain ⟨hb, s3, h5, h6⟩ := bind_inv h4
    obtain ⟨hhb0, rfl⟩ := opt_inv h5
    obtain ⟨lb, s4, h7, h8⟩ := bind_inv h6
    obtain ⟨hlb, rfl⟩ := opt_inv h7
    cases hi with
    | none => cases hhb0
    | some hi =>
    have hhb : bound? n cb ((some hi).map ρ) = some hb := hhb0
    obtain ⟨c1, c2⟩ := bound_inv (x := some m) hcb hρ
    obtain ⟨b1, b2⟩ := bound_inv (x := some hi) hhb hρ
    obtain ⟨b3, b4⟩ := bound_inv hlb hρ
    rw [hrx] at hx
    generalize ρ' x = u at hx ⊢
    have hrun : ∀ (a : Option Addr) (k' : Nat), n ≤ k' → (Instr.sliceAt t (.slice a n k') (lo.map ρ') ((some hi).map ρ') ((some m).map ρ')).run P w = .ok (.slice (if cb = lb then a else a.map (·.add (lb * z))) (hb - lb) (cb - lb)) w := by
      intro a k' hk'
      simp only [Instr.sliceAt, Sem.run_bind, run_und w hu, Result.andThen_ok, Instr.slice]
      rw [run_bounds3 (show cb ≤ k' by omega) b1 b3 c2 b2 b4]
      simp [run_size w hz]
    cases base with
    | none =>
      dsimp only at h8
      obtain ⟨rfl, rfl⟩ := pure_inv h8
      cases hx with
      | sliceNil =>
        refine Gives.of_run (hrun none 0 (by omega)) (Post.same hR ?_)
        have h0 : hb - lb = 0 := by omega
        have h1 : cb - lb = 0 := by omega
        rw [h0, h1]
        simp
        exact .sliceNil
    | some ad =>
      obtain ⟨y, o, sp⟩ := ad
      cases sp with
      | some q => cases h8
      | none =>
        dsimp only at h8
        rcases cond_inv h8 with ⟨hlc, h9⟩ | ⟨hlc, h9⟩
        · have hlc := Nat.eq_of_beq_eq_true hlc
          obtain ⟨rfl, rfl⟩ := pure_inv h9
          have h0 : hb - lb = 0 := by omega
          have h1 : cb - lb = 0 := by omega
          cases hx with
          | slice _ _ _ _ k' l hl hk hr =>
            refine Gives.of_run (hrun _ k' hk) (Post.same hR ?_)
            rw [h0, h1, if_pos hlc.symm]
            exact .sliceZero _ _ _ _ _
          | sliceEmpty _ _ _ a =>
            refine Gives.of_run (hrun _ 0 (by omega)) (Post.same hR ?_)
            rw [h0, h1, if_pos hlc.symm]
            exact .sliceZero _ _ _ _ _
        · have hlc : lb ≠ cb := fun e => by rw [e, Nat.beq_refl] at hlc; cases hlc
          obtain ⟨hzk, h10⟩ := guard_inv' h9
          have hzk := Nat.eq_of_beq_eq_true hzk
          subst hzk
          obtain ⟨rfl, rfl⟩ := pure_inv h10
          cases hx with
          | slice _ _ _ _ k' l hl hk hr =>
            refine Gives.of_run (hrun _ k' hk) (Post.same hR ?_)
            rw [if_neg (fun e => hlc e.symm)]
            simp only [Option.map_some, addr_add]
            have := VR.slice (ω := ω) y (o + lb * z) (hb - lb) z (cb - lb) l hl (by omega) (by
              have h1 : lb * z + (cb - lb) * z = cb * z := by rw [← Nat.add_mul]; congr 1; omega
              have h2 : cb * z ≤ k' * z := Nat.mul_le_mul_right _ (by omega)
              omega)
            rwa [← Nat.add_assoc] at this
          | sliceEmpty _ _ _ a => exfalso; omega
  | none =>
  dsimp only at h
  obtain ⟨d, s1, h1, h2⟩ := bind_inv h
  obtain ⟨hu, rfl⟩ := opt_inv h1
  have hx := hρ x
  obtain ⟨m, hm, hh⟩ := app h2
  clear h2
  split at hm <;> subst hm
  · -- a string
    rename_i st hrx
    obtain ⟨hb, s2, h3, h4⟩ := bind_inv hh
    obtain ⟨hhb, rfl⟩ := opt_inv h3
    obtain ⟨lb, s3, h5, h6⟩ := bind_inv h4
    obtain ⟨hlb, rfl⟩ := opt_inv h5
    obtain ⟨rfl, rfl⟩ := pure_inv h6
    obtain ⟨b1, b2⟩ := bound_inv hhb hρ
    obtain ⟨b3, b4⟩ := bound_inv hlb hρ
    rw [hrx] at hx
    rw [VR.flat rfl hx]
    refine Gives.of_run (a := .string (st.extract lb hb)) (w' := w) ?_ (Post.same hR (.string _))
    simp only [Instr.sliceAt, Sem.run_bind, run_und w hu, Result.andThen_ok, Instr.slice, Option.map_none, Option.isSome_none, Bool.false_eq_true, if_false, Sem.run_pure]
    rw [run_bounds b1 b3 b2 b4]
    rfl
  · rename_i e base n k hrx
    obtain ⟨hb, s2, h3, h4⟩ := bind_inv hh
    obtain ⟨hhb, rfl⟩ := opt_inv h3
    obtain ⟨lb, s3, h5, h6⟩ := bind_inv h4
    obtain ⟨hlb, rfl⟩ := opt_inv h5
    obtain ⟨z, s4, h7, h8⟩ := bind_inv h6
    obtain ⟨hz, rfl⟩ := opt_inv h7
    obtain ⟨b1, b2⟩ := bound_inv hhb hρ
    obtain ⟨b3, b4⟩ := bound_inv hlb hρ
    rw [hrx] at hx
    generalize ρ' x = u at hx ⊢
    have hrun : ∀ (a : Option Addr) (k' : Nat), n ≤ k' → (Instr.sliceAt t (.slice a n k') (lo.map ρ') (hi.map ρ') none).run P w = .ok (.slice (if k' = lb then a else a.map (·.add (lb * z))) (hb - lb) (k' - lb)) w := by
      intro a k' hk'
      simp only [Instr.sliceAt, Sem.run_bind, run_und w hu, Result.andThen_ok, Instr.slice]
      rw [run_bounds (show hb ≤ k' by omega) b3 b2 b4]
      simp [run_size w hz]
    cases base with
    | none =>
      dsimp only at h8
      obtain ⟨rfl, rfl⟩ := pure_inv h8
      cases hx with
      | sliceNil =>
        refine Gives.of_run (hrun none 0 (by omega)) (Post.same hR ?_)
        have h0 : hb - lb = 0 := by omega
        have h1 : 0 - lb = 0 := by omega
        rw [h0, h1]
        simp
        exact .sliceNil
    | some ad =>
      obtain ⟨y, o, sp⟩ := ad
      cases sp with
      | some q => cases h8
      | none =>
        dsimp only at h8
        obtain ⟨hzk, h9⟩ := guard_inv' h8
        have hzk := Nat.eq_of_beq_eq_true hzk
        subst hzk
        obtain ⟨rfl, rfl⟩ := pure_inv h9
        cases hx with
        | slice _ _ _ _ k' l hl hk hr =>
          refine Gives.of_run (hrun _ k' hk) (Post.same hR ?_)
          by_cases hkl : k' = lb
          · rw [if_pos hkl]
            have h0 : hb - lb = 0 := by omega
            have h1 : k' - lb = 0 := by omega
            rw [h0, h1]
            exact .sliceEmpty _ _ _ _
          · rw [if_neg hkl]
            simp only [Option.map_some, addr_add]
            have := VR.slice (ω := ω) y (o + lb * z) (hb - lb) z (k' - lb) l hl (by omega) (by
              have : lb * z + (k' - lb) * z = k' * z := by rw [← Nat.add_mul]; congr 1; omega
              omega)
            rwa [← Nat.add_assoc] at this
        | sliceEmpty _ _ _ a =>
          refine Gives.of_run (hrun _ 0 (by omega)) (Post.same hR ?_)
          have h0 : hb - lb = 0 := by omega
          have h1 : 0 - lb = 0 := by omega
          have h2 : lb = 0 := by omega
          rw [h0, h1, if_pos h2.symm]
          exact .sliceEmpty _ _ _ _
  · rename_i n e hv
    obtain ⟨⟨y, o⟩, s2, h3, h4⟩ := bind_inv hh
    obtain ⟨hp, rfl⟩ := opt_inv h3
    obtain ⟨hb, s3, h5, h6⟩ := bind_inv h4
    obtain ⟨hhb, rfl⟩ := opt_inv h5
    obtain ⟨lb, s4, h7, h8⟩ := bind_inv h6
    obtain ⟨hlb, rfl⟩ := opt_inv h7
    obtain ⟨z, s5, h9, h10⟩ := bind_inv h8
    obtain ⟨hz, rfl⟩ := opt_inv h9
    obtain ⟨⟨c, ce⟩, s6, h12, h13⟩ := bind_inv h10
    obtain ⟨rfl, hmk, hg⟩ := rdCells_inv h12
    dsimp only at h13 hg
    obtain ⟨hbn', h11⟩ := guard_inv' h13
    simp only [Bool.and_eq_true] at hbn'
    have hbn := Nat.eq_of_beq_eq_true hbn'.1
    have hcl := Nat.le_of_ble_eq_true hbn'.2
    subst hbn
    obtain ⟨rfl, rfl⟩ := pure_inv h11
    obtain ⟨l0, hl0, ho⟩ := hR.cells hg
    obtain ⟨b1, b2⟩ := bound_inv hhb hρ
    obtain ⟨b3, b4⟩ := bound_inv hlb hρ
    rw [place_inv hp] at hx
    generalize ρ' x = u at hx ⊢
    cases hx with
    | ptr _ _ l hl =>
      have hrun : (Instr.sliceAt t (.pointer (some ⟨l.blk, l.off + o, none⟩)) (lo.map ρ') (hi.map ρ') none).run P w = .ok (.slice (some (if hb = lb then ⟨l.blk, l.off + o, none⟩ else ⟨l.blk, l.off + o + lb * z, none⟩)) (hb - lb) (hb - lb)) w := by
        simp only [Instr.sliceAt, Sem.run_bind, run_und w hu, Result.andThen_ok, Instr.sureAddr, Sem.run_pure]
        rw [run_bounds b1 b3 b2 b4]
        simp [run_size w hz, addr_add]
      refine Gives.of_run hrun (Post.same hR ?_)
      by_cases hbl : hb = lb
      · rw [if_pos hbl]
        have h0 : hb - lb = 0 := by omega
        rw [h0]
        exact .sliceEmpty _ _ _ _
      · rw [if_neg hbl]
        have e0 : l0 = l := by rw [hl] at hl0; cases hl0; rfl
        rw [e0] at ho
        have hroom := ho.2.1
        have := VR.slice (ω := ω) y (o + lb * z) (hb - lb) z (hb - lb) l hl (Nat.le_refl _) (by
          have : lb * z + (hb - lb) * z = hb * z := by rw [← Nat.add_mul]; congr 1; omega
          omega)
        rwa [← Nat.add_assoc] at this
  · cases hh
end ops
end Go.Ev
