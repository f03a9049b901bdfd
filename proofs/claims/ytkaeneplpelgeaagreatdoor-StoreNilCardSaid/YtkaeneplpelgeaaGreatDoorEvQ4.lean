/- PART EvQ4 of a proof by an evaluator of the model that is proved sound. -/
import Derived.Test.YtkaeneplpelgeaaGreatDoorEvQ3
set_option linter.unusedVariables false
set_option linter.unusedSimpArgs false
namespace Go.Ev
open Go Go.RowKit
section ops
variable {P : Program} {ω : Nat → Value} {B : Nat} {W0 : World} {μ : Mp} {w : World} {s s' : St} {call : FuncId → List Value → E Value} {ρ ρ' : Operand → Value}

theorem sliceElem_inv {t e : TypeId} (h : sliceElem? P t = some e) : P.underlying t = some (.slice e) := by
  unfold sliceElem? at h
  split at h
  · cases h; assumption
  · cases h
/-- A new row, as a slice. -/
theorem newSlice_ok {e e' : TypeId} {c us rest : List Value} {n k z : Nat} (hR : Rel ω B W0 μ s.heap w) (h4 : 4096 ≤ s.next) (hf : μ s.next = none) (hs : VRs ω μ c us) (hk : n ≤ k) (hroom : k * z ≤ us.length + rest.length) :
    Post ω B W0 μ s { heap := s.heap.set s.next (.cells c e), next := s.next + 1, low := s.low, mask := s.mask } (.slice (some ⟨s.next, 0, none⟩) n z) (.slice (some ⟨w.heap.size, 0, none⟩) n k) (w.alloc (.cells (us ++ rest).toArray e')) := by
  obtain ⟨μ', he, hr, hm⟩ := nw_ok (R := .cells (us ++ rest).toArray e') (room := us.length + rest.length) (o := .cells c e) hR h4 hf (fun μ' hx => ObjR.newCells (hs.ext hx) rfl)
  refine ⟨μ', he, hr, ?_⟩
  have := VR.slice (ω := ω) s.next 0 n z k _ hm hk (by dsimp only; omega)
  simpa using this
theorem getBang (a : Array Value) (i : Nat) (h : i < a.size) : a[i]! = a[i] := getElem!_pos a i h
/-- So many values, one behind the other, again and again. -/
theorem replicate_flat (z : Array Value) (n : Nat) (hz : 0 < z.size) : ((Array.range (n * z.size)).map fun i => z[i % z.size]!).toList = (List.replicate n z.toList).flatten := by
  induction n with
  | zero => simp
  | succ n ih =>
    rw [List.replicate_succ', List.flatten_append, ← ih]
    simp only [Array.toList_map, Array.toList_range, Nat.succ_mul, List.range_add, List.map_append, List.map_map, List.flatten_cons, List.flatten_nil, List.append_nil]
    congr 1
    apply List.ext_getElem
    · simp
    · intro i h1 h2
      simp at h1
      simp only [List.getElem_map, List.getElem_range, Function.comp_apply, Array.getElem_toList]
      have : (n * z.size + i) % z.size = i := by rw [Nat.mul_comm, Nat.mul_add_mod]; exact Nat.mod_eq_of_lt h1
      rw [this, getBang z i h1]
theorem replicate_zero (n : Nat) : ((Array.range (n * 0)).map fun i => (#[] : Array Value)[i % 0]!).toList = [] := by simp
theorem zeros_inv {e : TypeId} {n z : Nat} {l : List Value} (h : zeros P e n z = some l) : ∃ v, zero? P e = some v ∧ v.cells.size = z ∧ v.cells.toList.all flat = true ∧ l = (List.replicate n v.cells.toList).flatten := by
  unfold zeros at h
  cases hv : zero? P e with
  | none => rw [hv] at h; cases h
  | some v =>
    rw [hv] at h
    have h' : (bif Nat.beq v.cells.size z && v.cells.toList.all flat then some (List.replicate n v.cells.toList).flatten else none) = some l := h
    cases hb : (Nat.beq v.cells.size z && v.cells.toList.all flat) with
    | false => rw [hb] at h'; cases h'
    | true =>
      rw [hb] at h'
      cases h'
      simp only [Bool.and_eq_true] at hb
      exact ⟨v, rfl, Nat.eq_of_beq_eq_true hb.1, hb.2, rfl⟩
theorem flat_flatten {z : List Value} (h : z.all flat = true) (n : Nat) : ((List.replicate n z).flatten).all flat = true := by
  rw [List.all_eq_true] at h ⊢
  intro v hv
  obtain ⟨l, hl, hv⟩ := List.mem_flatten.1 hv
  rw [List.eq_of_mem_replicate hl] at hv
  exact h v hv
theorem armMakeSlice_ok {t : TypeId} {n k : Operand} {v : Value} (h : armMakeSlice t n k P call ρ s = some (v, s')) (hρ : ∀ x, VR ω μ (ρ x) (ρ' x)) (hR : Rel ω B W0 μ s.heap w) (h4 : 4096 ≤ s.next) (hf : Fresh μ s.next s'.next) :
    Gives P (Instr.makeSlice t (ρ' n) (ρ' k)) w (Post ω B W0 μ s s' v) := by
  unfold armMakeSlice at h
  obtain ⟨e, s1, h1, h2⟩ := bind_inv h
  obtain ⟨he, rfl⟩ := opt_inv h1
  obtain ⟨i, s2, h3, h5⟩ := bind_inv h2
  obtain ⟨hi, rfl⟩ := opt_inv h3
  obtain ⟨z, s3, h6, h7⟩ := bind_inv h5
  obtain ⟨hz, rfl⟩ := opt_inv h6
  have hn := hρ n
  have hk := hρ k
  obtain ⟨m, hm, hh⟩ := app h7
  clear h7
  split at hm <;> subst hm
  · rename_i kn a kk b hrn hrk
    obtain ⟨hg, h8⟩ := guard_inv' hh
    simp only [Bool.and_eq_true] at hg
    obtain ⟨⟨⟨⟨g1, g2⟩, g3⟩, g4⟩, g5⟩ := hg
    have g1 := Nat.le_of_ble_eq_true g1
    have g2 := Nat.le_of_ble_eq_true g2
    have g3 := Nat.le_of_ble_eq_true g3
    have g4 := Nat.eq_of_beq_eq_true g4
    obtain ⟨y, s4, h9, h10⟩ := bind_inv h8
    obtain ⟨rfl, rfl⟩ := nw_inv h9
    obtain ⟨rfl, rfl⟩ := pure_inv h10
    rw [hrn] at hn; rw [hrk] at hk
    rw [VR.flat rfl hn, VR.flat rfl hk]
    have hu := sliceElem_inv he
    have hz0 : zero? P e = some z := by unfold zero?; rw [hi]; exact hz
    have hz1 : size? P e = some i.size := by unfold size?; rw [hi]; rfl
    have hwa : IntKind.i64.wrap (Int.ofNat a) = (a : Int) := by
      rw [← wrapK_eq]; show wrapK .i64 (a : Int) = _; unfold wrapK
      have : Int.emod (a : Int) (Int.ofNat 18446744073709551616) = Int.ofNat a := by
        show (a : Int) % (18446744073709551616 : Int) = (a : Int); omega
      rw [this]
      have hb : Nat.blt a 9223372036854775808 = true := by rw [blt_dec]; exact decide_eq_true (by omega)
      simp [hb]
    have hwb : IntKind.i64.wrap (Int.ofNat b) = (b : Int) := by
      rw [← wrapK_eq]; show wrapK .i64 (b : Int) = _; unfold wrapK
      have : Int.emod (b : Int) (Int.ofNat 18446744073709551616) = Int.ofNat b := by
        show (b : Int) % (18446744073709551616 : Int) = (b : Int); omega
      rw [this]
      have hb : Nat.blt b 9223372036854775808 = true := by rw [blt_dec]; exact decide_eq_true (by omega)
      simp [hb]
    have hmul : i.bytes * b ≤ 1000 * 1000000 := Nat.mul_le_mul g3 g2
    have hbytes : ¬ ((i.bytes : Int) * (b : Int) > 2 ^ 48) := by
      have h0 : i.bytes * b ≤ 1000000000 := hmul
      have : ((i.bytes * b : Nat) : Int) ≤ 1000000000 := by omega
      rw [Int.natCast_mul] at this
      omega
    have hrun : ∀ cells : Array Value, cells = ((Array.range (b * i.size)).map (fun j => z.cells[j % z.cells.size]!)) → (Instr.makeSlice t (.int kn (Int.ofNat a)) (.int kk (Int.ofNat b))).run P w = .ok (.slice (some ⟨w.heap.size, 0, none⟩) a b) (w.alloc (.cells cells e)) := by
      intro cells hc
      unfold Instr.makeSlice
      rw [Sem.run_bind, run_und w hu, Result.andThen_ok]
      simp only [asInt, asIntOf, Sem.run_bind, Sem.run_pure, Result.andThen_ok, run_info w hi, hwa, hwb]
      have c1 : decide ((b : Int) < 0) = false := decide_eq_false (by omega)
      have c2 : decide ((i.bytes : Int) * (b : Int) > 2 ^ 48) = false := decide_eq_false hbytes
      have c3 : decide ((a : Int) < 0) = false := decide_eq_false (by omega)
      have c4 : decide ((a : Int) > (b : Int)) = false := decide_eq_false (by omega)
      simp only [c1, c2, c3, c4, Bool.or_false, Bool.false_eq_true, if_false]
      simp only [Sem.run_bind, Sem.run_pure, Result.andThen_ok, run_askRoom, run_size w hz1, Int.toNat_natCast]
      by_cases hb0 : b * i.size = 0
      · rw [if_pos hb0]
        simp only [Sem.run_pure, Result.andThen_ok, newRow, Sem.run_bind, run_newObj, hb0]
        subst hc
        rw [hb0]
        have hr : ∀ f : Nat → Value, Array.map f (Array.range 0) = #[] := fun f => Array.toList_inj.1 (by rw [Array.toList_map, Array.toList_range]; rfl)
        rw [hr, hr]
        rfl
      · rw [if_neg hb0]
        simp only [Sem.run_bind, run_zero w hz0, Sem.run_pure, Result.andThen_ok, newRow, run_newObj]
        subst hc
        rfl
    refine Gives.of_run (hrun _ rfl) ?_
    have hl : ((Array.range (b * i.size)).map (fun j => z.cells[j % z.cells.size]!)).toList = (List.replicate b z.cells.toList).flatten := by
      by_cases hz' : z.cells.size = 0
      · have : z.cells.toList = [] := by simpa using hz'
        rw [← g4, hz', this]; simp
      · rw [← g4]; exact replicate_flat z.cells b (by omega)
    have hp := newSlice_ok (e := e) (e' := e) (rest := []) (n := a) (k := b) (z := i.size) (s := s3) hR h4 (hf _ (Nat.le_refl _) (by dsimp only; omega)) (VRs.refl_flat (flat_flatten g5 b)) g1 (by simp [List.length_flatten, g4])
    rw [List.append_nil, ← hl] at hp
    rw [hl] at hp
    have e1 : (List.replicate b z.cells.toList).flatten.toArray = ((Array.range (b * i.size)).map (fun j => z.cells[j % z.cells.size]!)) := by rw [← hl]
    rw [e1] at hp
    exact hp
  · cases hh
end ops
end Go.Ev
