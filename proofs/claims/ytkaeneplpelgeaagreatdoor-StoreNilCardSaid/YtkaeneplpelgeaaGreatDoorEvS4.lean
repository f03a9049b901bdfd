/- PART EvS4 of a proof by an evaluator of the model that is proved sound. -/
import Derived.Test.YtkaeneplpelgeaaGreatDoorEvS3
set_option linter.unusedVariables false
set_option linter.unusedSimpArgs false
namespace Go.Ev
open Go Go.RowKit
/-- A call of the model's ends well. -/
def CallR (P : Program) (f : FuncId) (args : Array Value) (w : World) (R : Value → World → Prop) : Prop :=
  match (callFunc f args).run P w with
  | .ok (.value u) w' => R u w'
  | .ok (.enter g as) w' => Calls P g as w' fun e w'' => match e with
    | .returned u => R u w''
    | _ => False
  | _ => False
/-- No object that may be looked at lies behind the next number. -/
def Bd (s : St) : Prop := ∀ x o, s.next ≤ x → s.heap.get x = some o → masked s.mask x = true
theorem Bd.after {α : Type} {m : E α} {s s' : St} {a : α} (h : Bd s) (st : Step m s a s') : Bd s' := by
  intro x o hx ho
  rw [st.mask]
  by_cases hs : s.heap.get x = none
  · rw [st.keeps x (by have := st.next; omega) (.inr (.inl hs))] at ho
    rw [hs] at ho; cases ho
  · obtain ⟨o', ho'⟩ := Option.ne_none_iff_exists'.1 hs
    exact h x o' (Nat.le_trans st.next hx) ho'
/-- The evaluator's calls stand for the model's. -/
def CallsOk (P : Program) (ω : Nat → Value) (B : Nat) (W0 : World) (call : FuncId → List Value → E Value) : Prop :=
  ∀ f as s v s', call f as s = some (v, s') → ∀ (μ : Mp) (w : World) (ras : List Value), Rel ω B W0 μ s.heap w → Bd s → 4096 ≤ s.next → Fresh μ s.next s'.next → VRs ω μ as ras → CallR P f ras.toArray w (Post ω B W0 μ s s' v)
section ops
variable {P : Program} {ω : Nat → Value} {B : Nat} {W0 : World} {μ : Mp} {w : World} {s s' : St} {call : FuncId → List Value → E Value} {ρ ρ' : Operand → Value}
theorem armCallV_ok {f : Operand} {as : Array Operand} {ts : Array TypeId} {v : Value} (hc : CallsOk P ω B W0 call) (hbd : Bd s) (h : armCallV f as P call ρ s = some (v, s')) (hρ : ∀ x, VR ω μ (ρ x) (ρ' x)) (hR : Rel ω B W0 μ s.heap w) (h4 : 4096 ≤ s.next) (hf : Fresh μ s.next s'.next)
    {o : Oper} (ho : o.op = .call { callee := .value f, args := as, argTypes := ts }) : Does P o ρ' w (Post ω B W0 μ s s' v) := by
  unfold armCallV at h
  have hx := hρ f
  obtain ⟨mm, hmm, hh⟩ := app h
  clear h
  split at hmm <;> subst hmm
  case h_2 => cases hh
  rename_i g first captured hrf
  rw [hrf] at hx
  generalize hu : ρ' f = u at hx
  cases hx with
  | func _ _ _ a' b' ha hb hav hbv =>
    have hvs := ((VRs.of_arrays ha hav).append (map_VRs hρ as.toList)).append (VRs.of_arrays hb hbv)
    have hcall := hc g _ s v s' hh μ w _ hR hbd h4 hf hvs
    unfold CallR at hcall
    have earr : (a'.toList ++ as.toList.map ρ' ++ b'.toList).toArray = a' ++ as.map ρ' ++ b' := by
      apply Array.toList_inj.1; simp
    rw [earr] at hcall
    unfold Does
    have hex : execOp ρ' o = callFunc g (a' ++ as.map ρ' ++ b') := by
      simp only [execOp, ho, resolve, hu, Deferred.ofValue]
      rfl
    rw [hex]
    revert hcall
    generalize (callFunc g (a' ++ as.map ρ' ++ b')).run P w = r
    intro hcall
    cases r with
    | halt _ _ => exact hcall.elim
    | ok n w' => cases n <;> first | exact hcall | exact hcall.elim
theorem method_gives {t : TypeId} {v u : Value} {name : String} {f : FuncId} {e : Option TypeId} {R : FuncId × Value → World → Prop} (hi : invoked? P t name = some (f, e)) (h0 : e = none → R (f, v) w)
    (h1 : ∀ t', e = some t' → Gives P (Instr.loadAt t' v) w fun u w' => R (f, u) w') (n : Nat) : Gives P (Go.method (n + 1) t v name) w R := by
  unfold invoked? at hi
  cases hin : P.info? t with
  | none => rw [hin] at hi; cases hi
  | some i =>
    rw [hin] at hi
    dsimp only at hi
    cases hm : i.methods.toList.find? (·.name == name) with
    | none => rw [hm] at hi; cases hi
    | some m =>
      rw [hm] at hi
      dsimp only at hi
      cases hp : m.path.toList with
      | cons a l => rw [hp] at hi; cases hi
      | nil =>
        rw [hp] at hi
        dsimp only at hi
        cases hf : m.func with
        | none => rw [hf] at hi; cases hi
        | some q =>
          obtain ⟨g, p⟩ := q
          rw [hf] at hi
          dsimp only at hi
          cases hu : P.underlying t with
          | none => rw [hu] at hi; cases hi
          | some d =>
            rw [hu] at hi
            dsimp only at hi
            have hm' : i.methods.find? (·.name == name) = some m := by rw [← Array.find?_toList]; exact hm
            have hpe : m.path.isEmpty = true := by
              have : m.path = #[] := by apply Array.toList_inj.1; exact hp
              rw [this]; rfl
            unfold Go.method
            refine Gives.bind (Gives.of_run (run_info w hin) ?_)
            rw [hm']
            dsimp only
            rw [hp]
            refine Gives.bind (Gives.pure ?_)
            dsimp only
            rw [hf]
            dsimp only
            have plain : (some (g, none) = some (f, e)) → R (g, v) w := by
              intro h
              have h := Option.some.inj h
              have e1 : g = f := congrArg Prod.fst h
              have e2 : (none : Option TypeId) = e := congrArg Prod.snd h
              subst e1
              exact h0 e2.symm
            have byptr : ∀ elem, d = .pointer elem → p = false → Gives P (Go.receiverAt t (.val v) p (if m.path.isEmpty then some ((name.splitOn ".").getLastD name) else none)) w fun u w' => Gives P (pure (g, u) : Sem (FuncId × Value)) w' R := by
              intro elem hd hp
              subst hd hp
              dsimp only at hi
              have h := Option.some.inj hi
              have e1 : g = f := congrArg Prod.fst h
              have e2 : some elem = e := congrArg Prod.snd h
              subst e1
              obtain ⟨u', w', hr, hR⟩ := h1 elem e2.symm
              unfold Instr.loadAt at hr
              rw [Sem.run_bind] at hr
              cases v with
              | pointer a =>
                cases a with
                | none => cases hr
                | some a =>
                  unfold Go.receiverAt
                  refine Gives.bind (Gives.of_run (run_und w hu) ?_)
                  dsimp only
                  refine Gives.bind (Gives.pure ?_)
                  rw [if_pos hpe]
                  refine Gives.bind (Gives.pure ?_)
                  refine Gives.bind (Gives.pure ?_)
                  exact ⟨u', w', hr, Gives.pure hR⟩
              | _ => cases hr
            have direct : (some (g, none) = some (f, e)) → (Go.receiverAt t (.val v) p (if m.path.isEmpty then some ((name.splitOn ".").getLastD name) else none)).run P w = .ok v w → Gives P (Go.receiverAt t (.val v) p (if m.path.isEmpty then some ((name.splitOn ".").getLastD name) else none)) w fun u w' => Gives P (pure (g, u) : Sem (FuncId × Value)) w' R :=
              fun h hr => ⟨v, w, hr, Gives.pure (plain h)⟩
            refine Gives.bind ?_
            cases p with
            | false =>
              cases d
              case pointer elem => exact byptr elem rfl rfl
              all_goals exact direct hi (by unfold Go.receiverAt; rw [Sem.run_bind, run_und w hu]; rfl)
            | true =>
              cases d
              case pointer elem => exact direct hi (by unfold Go.receiverAt; rw [Sem.run_bind, run_und w hu]; rfl)
              all_goals cases hi
theorem armInvoke_ok {x : Operand} {name : String} {as : Array Operand} {ts : Array TypeId} {v : Value} (hc : CallsOk P ω B W0 call) (hbd : Bd s) (h : armInvoke x name as P call ρ s = some (v, s')) (hρ : ∀ x, VR ω μ (ρ x) (ρ' x)) (hR : Rel ω B W0 μ s.heap w) (h4 : 4096 ≤ s.next) (hf : Fresh μ s.next s'.next)
    {o : Oper} (ho : o.op = .call { callee := .invoke x name, args := as, argTypes := ts }) : Does P o ρ' w (Post ω B W0 μ s s' v) := by
  unfold armInvoke at h
  have hx := hρ x
  obtain ⟨mm, hmm, hh⟩ := app h
  clear h
  split at hmm <;> subst hmm
  case h_2 => cases hh
  rename_i t u hrx
  rw [hrx] at hx
  generalize hu : ρ' x = u' at hx
  cases hx with
  | iface _ _ u2 hv =>
    obtain ⟨⟨f, e⟩, s1, g1, g2⟩ := bind_inv hh
    obtain ⟨hi, rfl⟩ := opt_inv g1
    have hex : execOp ρ' o = callMethod (.iface t u2) name (as.map ρ') := by
      simp only [execOp, ho, resolve, hu, invoke]
      have e0 : ((#[Value.iface t u2] ++ as.map ρ')[0]? : Option Value) = some (Value.iface t u2) := by
        rw [Array.getElem?_append_left (by simp)]
        rfl
      simp
      rw [e0]
      dsimp only
      have e2 : (Array.map ρ' as).extract 0 as.size = Array.map ρ' as := by
        have := Array.extract_size (xs := Array.map ρ' as)
        rwa [Array.size_map] at this
      rw [e2]
    have fin : ∀ (r r' : Value), VR ω μ r r' → call f (r :: as.toList.map ρ) s1 = some (v, s') → (Go.method (P.types.size + Made.depth) t u2 name).run P w = .ok (f, r') w → Does P o ρ' w (Post ω B W0 μ s1 s' v) := by
      intro r r' hr hcl hm
      have hvs := VRs.cons hr (map_VRs hρ as.toList)
      have hcall := hc f _ s1 v s' hcl μ w _ hR hbd h4 hf hvs
      unfold CallR at hcall
      have earr : (r' :: as.toList.map ρ').toArray = #[r'] ++ as.map ρ' := by
        apply Array.toList_inj.1; simp
      rw [earr] at hcall
      unfold Does
      have hrun : (execOp ρ' o).run P w = (callFunc f (#[r'] ++ as.map ρ')).run P w := by
        rw [hex]
        unfold callMethod
        dsimp only
        rw [Sem.run_bind]
        show (Result.andThen (.ok P w) _) = _
        rw [Result.andThen_ok, Sem.run_bind, hm, Result.andThen_ok]
      rw [hrun]
      revert hcall
      generalize (callFunc f (#[r'] ++ as.map ρ')).run P w = rr
      intro hcall
      cases rr with
      | halt _ _ => exact hcall.elim
      | ok n w' => cases n <;> first | exact hcall | exact hcall.elim
    have hdep : 0 < Made.depth := by decide
    obtain ⟨k, hk⟩ : ∃ k, P.types.size + Made.depth = k + 1 := ⟨P.types.size + Made.depth - 1, by omega⟩
    dsimp only at g2
    cases e with
    | none =>
      refine fin u u2 hv g2 ?_
      obtain ⟨q, w', h1, rfl, rfl⟩ := method_gives (w := w) (v := u2) (R := fun q w' => q = (f, u2) ∧ w' = w) (u := u2) hi (fun _ => ⟨rfl, rfl⟩) (fun t' h => by cases h) k
      rw [hk]; exact h1
    | some e =>
      obtain ⟨r, s2, g3, g4⟩ := bind_inv g2
      obtain ⟨rfl, hl⟩ := doLoad_ok g3 hv hR
      obtain ⟨r', w', h1, rfl, h3⟩ := hl
      refine fin r r' h3 g4 ?_
      obtain ⟨q, w'', h4', rfl, rfl⟩ := method_gives (w := w') (v := u2) (R := fun q w2 => q = (f, r') ∧ w2 = w') (u := u2) hi (fun h => by cases h) (fun t' h => by cases h; exact ⟨r', w', h1, rfl, rfl⟩) k
      rw [hk]; exact h4'
theorem flat_arr {l : List Value} (h : l.all flat = true) {as : Array Operand} (e : as.toList.map ρ = l) (hρ : ∀ x, VR ω μ (ρ x) (ρ' x)) : as.map ρ' = l.toArray := by
  have := VRs.flat h (e ▸ map_VRs hρ as.toList)
  apply Array.toList_inj.1
  simpa using this
theorem armBuiltin_ok {b : Builtin} {as : Array Operand} {ts : Array TypeId} {v : Value} (hω : ∀ k, (ω k).oneCell' = true) (h : armBuiltin b as ts P call ρ s = some (v, s')) (hρ : ∀ x, VR ω μ (ρ x) (ρ' x)) (hR : Rel ω B W0 μ s.heap w) (h4 : 4096 ≤ s.next) (hf : Fresh μ s.next s'.next)
    {o : Oper} (ho : o.op = .call { callee := .builtin b, args := as, argTypes := ts }) : Does P o ρ' w (Post ω B W0 μ s s' v) := by
  unfold armBuiltin at h
  have hvs := map_VRs hρ as.toList
  obtain ⟨mm, hmm, hh⟩ := app h
  clear h
  split at hmm <;> subst hmm
  · rename_i a c e
    rw [e] at hvs
    obtain ⟨a', c', e', q1, q2⟩ : ∃ a' c', as.toList.map ρ' = [a', c'] ∧ VR ω μ a a' ∧ VR ω μ c c' := by
      match hl : as.toList.map ρ', hvs with
      | [a', c'], hvs => exact ⟨a', c', rfl, hvs.2 0 a a' rfl rfl, hvs.2 1 c c' rfl rfl⟩
      | [], hvs => have := hvs.1; simp at this
      | [_], hvs => have := hvs.1; simp at this
      | _ :: _ :: _ :: _, hvs => have := hvs.1; simp at this
    have ea : as.map ρ' = #[a', c'] := by apply Array.toList_inj.1; simpa using e'
    refine Does.value (m := Builtin.append_ ts o.type #[a', c']) ?_ (doAppend_ok hω hh q1 q2 hR h4 hf)
    simp only [execOp, ho, resolve, ea]; rfl
  · rename_i a c e
    rw [e] at hvs
    obtain ⟨a', c', e', q1, q2⟩ : ∃ a' c', as.toList.map ρ' = [a', c'] ∧ VR ω μ a a' ∧ VR ω μ c c' := by
      match hl : as.toList.map ρ', hvs with
      | [a', c'], hvs => exact ⟨a', c', rfl, hvs.2 0 a a' rfl rfl, hvs.2 1 c c' rfl rfl⟩
      | [], hvs => have := hvs.1; simp at this
      | [_], hvs => have := hvs.1; simp at this
      | _ :: _ :: _ :: _, hvs => have := hvs.1; simp at this
    have ea : as.map ρ' = #[a', c'] := by apply Array.toList_inj.1; simpa using e'
    obtain ⟨d1, d2, d3⟩ := doDelete_ok (ty := o.type) hh q1 q2 hR
    refine Does.value (m := Builtin.delete_ ts o.type #[a', c']) ?_ (d3.mono fun u w' ⟨hu, hr⟩ => ?_)
    · simp only [execOp, ho, resolve, ea]; rfl
    · subst hu; subst d2
      exact ⟨μ, by rw [d1]; exact Ext.refl _ _ _, hr, VR.tuple_of VRs.nil⟩
  · rename_i a e
    rw [e] at hvs
    obtain ⟨a', e', q1⟩ : ∃ a', as.toList.map ρ' = [a'] ∧ VR ω μ a a' := by
      match hl : as.toList.map ρ', hvs with
      | [a'], hvs => exact ⟨a', rfl, hvs.2 0 a a' rfl rfl⟩
      | [], hvs => have := hvs.1; simp at this
      | _ :: _ :: _, hvs => have := hvs.1; simp at this
    have ea : as.map ρ' = #[a'] := by apply Array.toList_inj.1; simpa using e'
    refine Does.value (m := Builtin.len_ ts o.type #[a']) ?_ (doLen_ok hh q1 hR)
    simp only [execOp, ho, resolve, ea]; rfl
  · rename_i l hl
    obtain ⟨hfl, h1⟩ := guard_inv' hh
    obtain ⟨g1, g2, rfl⟩ := pureVal_inv h1
    have ea := flat_arr hfl rfl hρ
    refine Does.value (m := Builtin.max_ #[] 0 (as.toList.map ρ).toArray) ?_ (pure_post hR (evalPure_run g1 w) g2)
    simp only [execOp, ho, resolve, ea]; rfl
  · rename_i l hl
    obtain ⟨hfl, h1⟩ := guard_inv' hh
    obtain ⟨g1, g2, rfl⟩ := pureVal_inv h1
    have ea := flat_arr hfl rfl hρ
    refine Does.value (m := Builtin.min_ #[] 0 (as.toList.map ρ).toArray) ?_ (pure_post hR (evalPure_run g1 w) g2)
    simp only [execOp, ho, resolve, ea]; rfl
  · cases hh
/-- EVERY OPERATION. -/
theorem armOf_ok {o : Oper} {v : Value} (hω : ∀ k, (ω k).oneCell' = true) (hc : CallsOk P ω B W0 call) (hbd : Bd s) (h : armOf o.op P call ρ s = some (v, s')) (hρ : ∀ x, VR ω μ (ρ x) (ρ' x)) (hR : Rel ω B W0 μ s.heap w) (h4 : 4096 ≤ s.next) (hf : Fresh μ s.next s'.next) :
    Does P o ρ' w (Post ω B W0 μ s s' v) := by
  have skipped : ∀ {m : Sem Unit}, execOp ρ' o = (do m; pure .skip) → (s'.next = s.next ∧ v = undef ∧ Gives P m w fun _ w' => Rel ω B W0 μ s'.heap w') → Does P o ρ' w (Post ω B W0 μ s s' v) := by
    intro m he ⟨e1, e2, e3⟩
    refine Does.skip he (e3.mono fun _ w' hr => ?_)
    subst e2
    exact ⟨μ, by rw [e1]; exact Ext.refl _ _ _, hr, VR.undef⟩
  cases ho : o.op with
  | move x =>
    rw [ho] at h
    exact Does.next (n := ρ' x) (by simp only [execOp, ho]; rfl) (armMove_ok (call := call) (P := P) h hρ hR)
  | assign x =>
    rw [ho] at h
    exact Does.next (n := ρ' x) (by simp only [execOp, ho]; rfl) (armMove_ok (call := call) (P := P) h hρ hR)
  | pick c a b =>
    rw [ho] at h
    obtain ⟨t, h1, h2⟩ := armPick_ok (call := call) (P := P) h hρ hR
    refine Does.next (n := if t then ρ' a else ρ' b) (w' := w) ?_ h2
    simp only [execOp, ho, h1]
    cases t <;> rfl
  | alloc e => rw [ho] at h; exact Does.value (by simp only [execOp, ho]) (armAlloc_ok (call := call) (ρ := ρ) h hR h4 hf)
  | box e x => rw [ho] at h; exact Does.value (by simp only [execOp, ho]) (armBox_ok (call := call) hω h hρ hR h4 hf)
  | build t ps => rw [ho] at h; exact Does.value (by simp only [execOp, ho]) (armBuild_ok (call := call) hω h hρ hR)
  | buildSlice t n ps => rw [ho] at h; exact Does.value (by simp only [execOp, ho]) (armBuildSlice_ok (call := call) hω h hρ hR h4 hf)
  | insert t m k x => rw [ho] at h; exact skipped (by simp only [execOp, ho]) (armMapUpdate_ok (call := call) h hρ hR)
  | load t a =>
    rw [ho] at h
    obtain ⟨rfl, h2⟩ := doLoad_ok h (hρ a) hR
    exact Does.value (by simp only [execOp, ho]) (h2.mono fun u w' ⟨e, hv⟩ => by subst e; exact Post.same hR hv)
  | store t a x => rw [ho] at h; exact skipped (by simp only [execOp, ho]) (doStore_ok hω h (hρ a) (hρ x) hR)
  | ready g => rw [ho] at h; cases h
  | waits g => rw [ho] at h; cases h
  | nilCheck x => rw [ho] at h; exact armNilCheck_ok (call := call) h hρ hR ho
  | binOp op t x y u => rw [ho] at h; exact Does.value (by simp only [execOp, ho]) (armBin_ok (call := call) h hρ hR)
  | unOp op t x => rw [ho] at h; exact Does.value (by simp only [execOp, ho]) (armUn_ok (call := call) h hρ hR)
  | convert a d x => rw [ho] at h; exact Does.value (by simp only [execOp, ho]) (armConvert_ok (call := call) h hρ hR h4 hf)
  | sliceToArrayPointer a x => rw [ho] at h; cases h
  | makeInterface t x => rw [ho] at h; exact Does.value (by simp only [execOp, ho]) (armMakeInterface_ok (call := call) h hρ hR)
  | makeFunc fn a b => rw [ho] at h; exact Does.value (by simp only [execOp, ho]) (armMakeFunc_ok (call := call) h hρ hR)
  | makeMap t r => rw [ho] at h; exact Does.value (by simp only [execOp, ho]) (armMakeMap_ok (call := call) h hρ hR h4 hf)
  | makeChan t n => rw [ho] at h; cases h
  | makeSlice t n k => rw [ho] at h; exact Does.value (by simp only [execOp, ho]) (armMakeSlice_ok (call := call) h hρ hR h4 hf)
  | slice t x lo hi mx => rw [ho] at h; exact Does.value (by simp only [execOp, ho]) (armSlice_ok (call := call) h hρ hR)
  | fieldAddr t x f => rw [ho] at h; exact Does.value (by simp only [execOp, ho]) (armFieldAddr_ok (call := call) h hρ hR)
  | field t x f => rw [ho] at h; exact Does.value (by simp only [execOp, ho]) (armField_ok (call := call) h hρ hR)
  | indexAddr t x i => rw [ho] at h; exact Does.value (by simp only [execOp, ho]) (armIndexAddr_ok (call := call) h hρ hR)
  | index t x i => rw [ho] at h; exact Does.value (by simp only [execOp, ho]) (armIndex_ok (call := call) h hρ hR)
  | lookup t m k ok => rw [ho] at h; exact Does.value (by simp only [execOp, ho]) (armLookup_ok (call := call) h hρ hR)
  | mapUpdate t m k x => rw [ho] at h; exact skipped (by simp only [execOp, ho]) (armMapUpdate_ok (call := call) h hρ hR)
  | mapEntry t m k => rw [ho] at h; cases h
  | entryStore t m k x => rw [ho] at h; cases h
  | range t x => rw [ho] at h; exact Does.value (by simp only [execOp, ho]) (armRange_ok (call := call) h hρ hR h4 hf)
  | next it b => rw [ho] at h; exact Does.value (by simp only [execOp, ho]) (armNext_ok (call := call) (ty := o.type) h hρ hR)
  | entry it => rw [ho] at h; exact Does.value (by simp only [execOp, ho]) (armEntry_ok (call := call) h hρ hR)
  | typeAssert x t a ok => rw [ho] at h; exact Does.value (by simp only [execOp, ho]) (armTypeAssert_ok (call := call) (t := t) h hρ hR)
  | extract t i => rw [ho] at h; exact Does.value (by simp only [execOp, ho]) (armExtract_ok (call := call) h hρ hR)
  | call c =>
    rw [ho] at h
    obtain ⟨callee, args, ts⟩ := c
    cases callee with
    | value f => exact armCallV_ok hc hbd h hρ hR h4 hf ho
    | invoke r m => exact armInvoke_ok hc hbd h hρ hR h4 hf ho
    | builtin b => exact armBuiltin_ok (call := call) hω h hρ hR h4 hf ho
  | go c => rw [ho] at h; cases h
  | defer c => rw [ho] at h; cases h
  | panic x => rw [ho] at h; cases h
  | send c x => rw [ho] at h; cases h
  | recv t c ok => rw [ho] at h; cases h
  | select cs b => rw [ho] at h; cases h
end ops
end Go.Ev
