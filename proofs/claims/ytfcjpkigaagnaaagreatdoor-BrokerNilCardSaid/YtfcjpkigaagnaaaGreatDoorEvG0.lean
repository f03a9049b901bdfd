/- PART EvG0 of a proof by an evaluator of the model that is proved sound. -/
import Derived.Test.YtfcjpkigaagnaaaGreatDoorEvC
set_option linter.unusedVariables false
set_option linter.unusedSimpArgs false
namespace Go.Ev
open Go Go.RowKit
section
variable {P : Program} {call : FuncId → List Value → E Value} {ρ ρ' : Operand → Value}
theorem pairs_congr {ps : Array (Nat × Operand)} (h : ∀ x ∈ ps.map (·.2), ρ x = ρ' x) : ps.toList.map (fun (i, x) => (i, ρ x)) = ps.toList.map (fun (i, x) => (i, ρ' x)) ∧ ps.toList.all (fun p => notJunk (ρ p.2)) = ps.toList.all (fun p => notJunk (ρ' p.2)) := by
  have h' : ∀ p ∈ ps.toList, ρ p.2 = ρ' p.2 := fun p hp => h p.2 (Array.mem_map.2 ⟨p, by simpa using hp, rfl⟩)
  refine ⟨List.map_congr_left fun p hp => by obtain ⟨i, x⟩ := p; simp only [h' _ hp], ?_⟩
  have key : ∀ l : List (Nat × Operand), (∀ p ∈ l, ρ p.2 = ρ' p.2) → l.all (fun p => notJunk (ρ p.2)) = l.all (fun p => notJunk (ρ' p.2)) := by
    intro l
    induction l with
    | nil => intro _; rfl
    | cons p l ih => intro h; rw [List.all_cons, List.all_cons, h p (by simp), ih (fun q hq => h q (by simp [hq]))]
  exact key _ h'
theorem map_congr' {as : Array Operand} (h : ∀ x ∈ as, ρ x = ρ' x) : as.map ρ = as.map ρ' ∧ as.toList.map ρ = as.toList.map ρ' := by
  have : as.map ρ = as.map ρ' := Array.map_congr_left h
  refine ⟨this, ?_⟩
  rw [← Array.toList_map, ← Array.toList_map, this]
theorem armOf_congr (o : Op) (h : ∀ x ∈ o.operands, ρ x = ρ' x) : armOf o P call ρ = armOf o P call ρ' := by
  cases o <;> simp only [Op.operands] at h
  case move x => funext s; show some (ρ x, s) = some (ρ' x, s); rw [h x (by simp)]
  case assign x => funext s; show some (ρ x, s) = some (ρ' x, s); rw [h x (by simp)]
  case pick c a b => show armPick c a b P call ρ = armPick c a b P call ρ'; simp only [armPick, h c (by simp), h a (by simp), h b (by simp)]
  case alloc e => rfl
  case box e x => show armBox e x P call ρ = armBox e x P call ρ'; simp only [armBox, h x (by simp)]
  case build t ps =>
    show armBuild t ps P call ρ = armBuild t ps P call ρ'
    have := pairs_congr (ρ := ρ) (ρ' := ρ') (ps := ps) (fun x hx => h x (by simpa using hx))
    simp only [armBuild, this.1, this.2]
  case buildSlice t n ps =>
    show armBuildSlice t n ps P call ρ = armBuildSlice t n ps P call ρ'
    have := pairs_congr (ρ := ρ) (ρ' := ρ') (ps := ps) (fun x hx => h x (by simpa using hx))
    simp only [armBuildSlice, this.1, this.2]
  case insert t m k v => show armMapUpdate t m k v P call ρ = armMapUpdate t m k v P call ρ'; simp only [armMapUpdate, h m (by simp), h k (by simp), h v (by simp)]
  case load t a => show armLoad t a P call ρ = armLoad t a P call ρ'; simp only [armLoad, h a (by simp)]
  case store t a v => show armStore t a v P call ρ = armStore t a v P call ρ'; simp only [armStore, h a (by simp), h v (by simp)]
  case nilCheck x => show armNilCheck x P call ρ = armNilCheck x P call ρ'; simp only [armNilCheck, h x (by simp)]
  case binOp op t x y u => show armBin op t x y P call ρ = armBin op t x y P call ρ'; simp only [armBin, h x (by simp), h y (by simp)]
  case unOp op t x => show armUn op x P call ρ = armUn op x P call ρ'; simp only [armUn, h x (by simp)]
  case convert a d x => show armConvert a d x P call ρ = armConvert a d x P call ρ'; simp only [armConvert, h x (by simp)]
  case makeInterface t x => show armMakeInterface t x P call ρ = armMakeInterface t x P call ρ'; simp only [armMakeInterface, h x (by simp)]
  case makeFunc fn a b =>
    funext s
    show some (Value.func fn (a.map ρ) (b.map ρ), s) = some (Value.func fn (a.map ρ') (b.map ρ'), s)
    rw [(map_congr' (ρ := ρ) (ρ' := ρ') (as := a) (fun x hx => h x (by simp [hx]))).1, (map_congr' (ρ := ρ) (ρ' := ρ') (as := b) (fun x hx => h x (by simp [hx]))).1]
  case makeMap t r =>
    show armMakeMap t r P call ρ = armMakeMap t r P call ρ'
    cases r with
    | none => rfl
    | some x => simp only [armMakeMap, h x (by simp)]
  case makeSlice t n k => show armMakeSlice t n k P call ρ = armMakeSlice t n k P call ρ'; simp only [armMakeSlice, h n (by simp), h k (by simp)]
  case slice t x lo hi mx =>
    show armSlice t x lo hi mx P call ρ = armSlice t x lo hi mx P call ρ'
    have e1 : lo.map ρ = lo.map ρ' := by cases lo <;> simp_all
    have e2 : hi.map ρ = hi.map ρ' := by cases hi <;> simp_all
    cases mx with
    | none => simp only [armSlice, e1, e2, h x (by simp)]
    | some m => simp only [armSlice, e1, e2, h x (by simp), h m (by simp)]
  case fieldAddr t x f => show armFieldAddr t x f P call ρ = armFieldAddr t x f P call ρ'; simp only [armFieldAddr, h x (by simp)]
  case field t x f => show armField t x f P call ρ = armField t x f P call ρ'; simp only [armField, h x (by simp)]
  case indexAddr t x i => show armIndexAddr t x i P call ρ = armIndexAddr t x i P call ρ'; simp only [armIndexAddr, h x (by simp), h i (by simp)]
  case index t x i => show armIndex t x i P call ρ = armIndex t x i P call ρ'; simp only [armIndex, h x (by simp), h i (by simp)]
  case lookup t m k ok => show armLookup t m k ok P call ρ = armLookup t m k ok P call ρ'; simp only [armLookup, h m (by simp), h k (by simp)]
  case mapUpdate t m k v => show armMapUpdate t m k v P call ρ = armMapUpdate t m k v P call ρ'; simp only [armMapUpdate, h m (by simp), h k (by simp), h v (by simp)]
  case range t x => show armRange t x P call ρ = armRange t x P call ρ'; simp only [armRange, h x (by simp)]
  case next it b => show armNext it b P call ρ = armNext it b P call ρ'; simp only [armNext, h it (by simp)]
  case entry it => show armEntry it P call ρ = armEntry it P call ρ'; simp only [armEntry, h it (by simp)]
  case typeAssert x t a ok => show armTypeAssert x a ok P call ρ = armTypeAssert x a ok P call ρ'; simp only [armTypeAssert, h x (by simp)]
  case extract x i => show armExtract x i P call ρ = armExtract x i P call ρ'; simp only [armExtract, h x (by simp)]
  case call c =>
    obtain ⟨callee, args, ts⟩ := c
    cases callee with
    | value f =>
      show armCallV f args P call ρ = armCallV f args P call ρ'
      have := (map_congr' (ρ := ρ) (ρ' := ρ') (as := args) (fun x hx => h x (by simp [Call.operands, hx]))).2
      simp only [armCallV, this, h f (by simp [Call.operands])]
    | invoke x m =>
      show armInvoke x m args P call ρ = armInvoke x m args P call ρ'
      have := (map_congr' (ρ := ρ) (ρ' := ρ') (as := args) (fun x hx => h x (by simp [Call.operands, hx]))).2
      simp only [armInvoke, this, h x (by simp [Call.operands])]
    | builtin b =>
      show armBuiltin b args ts P call ρ = armBuiltin b args ts P call ρ'
      have := (map_congr' (ρ := ρ) (ρ' := ρ') (as := args) (fun x hx => h x (by simp [Call.operands, hx]))).2
      simp only [armBuiltin, this]
  all_goals rfl
end
/-- The operations that stand ahead of another one, by their bits. -/
theorem before_list (l : List Oper) : ∀ (acc : Array Nat), ∃ B : List Nat, (l.foldl (init := acc) fun acc o => acc.push (o.after.foldl (fun s e => if Region.binds .any e then s ||| 2 ^ e.on ||| acc.getD e.on 0 else s) 0)).toList = acc.toList ++ B ∧ B.length = l.length ∧
    ∀ i o, l[i]? = some o → ∀ j, (B.getD i 0).testBit j = true → ∃ e ∈ o.after.toList, Region.binds .any e = true ∧ (j = e.on ∨ (e.on < acc.size + i ∧ ((acc.toList ++ B).getD e.on 0).testBit j = true)) := by
  induction l with
  | nil => intro acc; exact ⟨[], by simp, rfl, fun i o h => by simp at h⟩
  | cons o l ih =>
    intro acc
    obtain ⟨B, h1, h2, h3⟩ := ih (acc.push (o.after.foldl (fun s e => if Region.binds .any e then s ||| 2 ^ e.on ||| acc.getD e.on 0 else s) 0))
    refine ⟨(o.after.foldl (fun s e => if Region.binds .any e then s ||| 2 ^ e.on ||| acc.getD e.on 0 else s) 0) :: B, ?_, by simp [h2], ?_⟩
    · rw [List.foldl_cons, h1]; simp
    · intro i o' hi j hj
      cases i with
      | zero =>
        simp only [List.getElem?_cons_zero, Option.some.injEq] at hi
        subst hi
        simp only [List.getD_cons_zero] at hj
        have key : ∀ (es : List Edge) (s : Nat), (es.foldl (fun s e => if Region.binds .any e then s ||| 2 ^ e.on ||| acc.getD e.on 0 else s) s).testBit j = true → s.testBit j = true ∨ ∃ e ∈ es, Region.binds .any e = true ∧ (j = e.on ∨ (acc.getD e.on 0).testBit j = true) := by
          intro es
          induction es with
          | nil => intro s h; exact .inl h
          | cons e es ihe =>
            intro s h
            rw [List.foldl_cons] at h
            rcases ihe _ h with h' | ⟨e', he', h'⟩
            · by_cases hb : Region.binds .any e = true
              · rw [if_pos hb, Nat.testBit_or, Nat.testBit_or, Nat.testBit_two_pow] at h'
                simp only [Bool.or_eq_true, decide_eq_true_eq] at h'
                rcases h' with (h' | h') | h'
                · exact .inl h'
                · exact .inr ⟨e, by simp, hb, .inl h'.symm⟩
                · exact .inr ⟨e, by simp, hb, .inr h'⟩
              · rw [if_neg hb] at h'; exact .inl h'
            · exact .inr ⟨e', by simp [he'], h'⟩
        rw [← Array.foldl_toList] at hj
        rcases key _ _ hj with h' | ⟨e, he, hb, h'⟩
        · simp at h'
        · refine ⟨e, he, hb, h'.imp id fun h' => ?_⟩
          have hlt : e.on < acc.size := by
            by_cases hlt : e.on < acc.size
            · exact hlt
            · rw [Array.getD_eq_getD_getElem?, Array.getElem?_eq_none (by omega)] at h'; simp at h'
          refine ⟨by omega, ?_⟩
          rw [List.getD_eq_getElem?_getD, List.getElem?_append_left (by simpa using hlt)]
          rw [Array.getD_eq_getD_getElem?] at h'
          simpa using h'
      | succ i =>
        simp only [List.getElem?_cons_succ] at hi
        simp only [List.getD_cons_succ] at hj
        obtain ⟨e, he, hb, h'⟩ := h3 i o' hi j hj
        refine ⟨e, he, hb, h'.imp id fun ⟨q1, q2⟩ => ⟨by simp at q1; omega, ?_⟩⟩
        simpa using q2
theorem before_bits (ops : Array Oper) : (Region.before ops).size = ops.size ∧ ∀ i o, ops[i]? = some o → ∀ j, ((Region.before ops).getD i 0).testBit j = true → ∃ e ∈ o.after.toList, Region.binds .any e = true ∧ (j = e.on ∨ (e.on < i ∧ ((Region.before ops).getD e.on 0).testBit j = true)) := by
  obtain ⟨B, h1, h2, h3⟩ := before_list ops.toList #[]
  have hb : (Region.before ops).toList = B := by
    unfold Region.before
    rw [← Array.foldl_toList, h1]; simp
  have hg : ∀ i, (Region.before ops).getD i 0 = B.getD i 0 := by
    intro i
    rw [Array.getD_eq_getD_getElem?, List.getD_eq_getElem?_getD, ← hb, Array.getElem?_toList]
  refine ⟨by rw [← Array.length_toList, hb, h2]; simp, fun i o hi j hj => ?_⟩
  rw [hg] at hj
  obtain ⟨e, he, hbn, h'⟩ := h3 i o (by simpa using hi) j hj
  exact ⟨e, he, hbn, h'.imp id fun ⟨q1, q2⟩ => ⟨by simpa using q1, by rw [hg]; simpa using q2⟩⟩
end Go.Ev
