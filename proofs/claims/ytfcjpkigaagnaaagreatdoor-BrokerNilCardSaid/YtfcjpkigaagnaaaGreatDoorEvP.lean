/- PART EvP of a proof by an evaluator of the model that is proved sound. -/
import Derived.Test.YtfcjpkigaagnaaaGreatDoorEvO
set_option linter.unusedVariables false
set_option linter.unusedSimpArgs false
namespace Go.Ev
open Go Go.RowKit

/-- An operation of the model's ends well: the value that it leaves, and the world. -/
def Does (P : Program) (o : Oper) (ρ : Operand → Value) (w : World) (R : Value → World → Prop) : Prop :=
  match (execOp ρ o).run P w with
  | .ok (.value u) w' => R u w'
  | .ok .skip w' => R undef w'
  | .ok (.enter f args) w' => Calls P f args w' fun e w'' => match e with
    | .returned u => R u w''
    | _ => False
  | _ => False
section
variable {P : Program} {o : Oper} {ρ : Operand → Value} {w : World} {R : Value → World → Prop}
theorem Does.value {m : Sem Value} (he : execOp ρ o = (do pure (.value (← m)))) (h : Gives P m w R) : Does P o ρ w R := by
  obtain ⟨u, w', h1, h2⟩ := h
  unfold Does
  rw [he, Sem.run_bind, h1, Result.andThen_ok]
  exact h2
theorem Does.skip {m : Sem Unit} (he : execOp ρ o = (do m; pure .skip)) (h : Gives P m w fun _ w' => R undef w') : Does P o ρ w R := by
  obtain ⟨u, w', h1, h2⟩ := h
  unfold Does
  rw [he, Sem.run_bind, h1, Result.andThen_ok]
  exact h2
theorem Does.next {n : Value} {w' : World} (he : (execOp ρ o).run P w = .ok (.value n) w') (h : R n w') : Does P o ρ w R := by
  unfold Does
  rw [he]
  exact h
end

section ops
variable {P : Program} {ω : Nat → Value} {B : Nat} {W0 : World} {μ : Mp} {w : World} {s s' : St} {call : FuncId → List Value → E Value} {ρ ρ' : Operand → Value}

theorem app {α : Type} {m : E α} {s : St} {r : Option (α × St)} (h : m s = r) : ∃ m' : E α, m' = m ∧ m' s = r := ⟨m, rfl, h⟩
/-- A new object in a new block. -/
theorem nw_ok (hR : Rel ω B W0 μ s.heap w) (h4 : 4096 ≤ s.next) (hf : μ s.next = none) {room : Nat} {R : Obj} {o : AObj}
    (hnew : ∀ μ' : Mp, (∀ x l, μ x = some l → μ' x = some l) → ObjR ω μ' (w.alloc R) ⟨w.heap.size, 0, room⟩ o) :
    ∃ μ', Ext μ μ' s.next (s.next + 1) ∧ Rel ω B W0 μ' (s.heap.set s.next o) (w.alloc R) ∧ μ' s.next = some ⟨w.heap.size, 0, room⟩ := by
  have hext : Ext μ (fun y => if y = s.next then some ⟨w.heap.size, 0, room⟩ else μ y) s.next (s.next + 1) := Ext.one hf (Nat.le_refl _) (by omega)
  exact ⟨_, hext, hR.alloc h4 hf (hnew _ hext.1), by simp⟩
theorem nw_inv {o : AObj} {n : Nat} (h : nw o s = some (n, s')) : n = s.next ∧ s' = { heap := s.heap.set s.next o, next := s.next + 1, low := s.low, mask := s.mask } := by
  have h' : some (s.next, ({ heap := s.heap.set s.next o, next := Nat.succ s.next, low := s.low, mask := s.mask } : St)) = some (n, s') := h
  cases h'; exact ⟨rfl, rfl⟩
theorem newCells_ok {e e' : TypeId} {c us : List Value} {v : Value} (h : newCells e c s = some (v, s')) (hR : Rel ω B W0 μ s.heap w) (h4 : 4096 ≤ s.next) (hf : Fresh μ s.next s'.next) (hs : VRs ω μ c us) :
    Post ω B W0 μ s s' v (.pointer (some ⟨w.heap.size, 0, none⟩)) (w.alloc (.cells us.toArray e')) := by
  unfold newCells at h
  obtain ⟨n, s1, h1, h2⟩ := bind_inv h
  obtain ⟨rfl, rfl⟩ := nw_inv h1
  obtain ⟨rfl, rfl⟩ := pure_inv h2
  dsimp only at hf
  obtain ⟨μ', he, hr, hm⟩ := nw_ok (R := .cells us.toArray e') (room := us.length) (o := .cells c e) hR h4 (hf _ (Nat.le_refl _) (by omega)) (fun μ' hx => by
    have := ObjR.newCells (w := w) (e := e) (e' := e') (room := us.length) (hs.ext hx) (rest := []) (by simp)
    simpa using this)
  refine ⟨μ', he, hr, ?_⟩
  have := VR.ptr (ω := ω) s.next 0 _ hm
  simpa [ptr] using this

theorem armMove_ok {x : Operand} {v : Value} (h : armMove x P call ρ s = some (v, s')) (hρ : ∀ x, VR ω μ (ρ x) (ρ' x)) (hR : Rel ω B W0 μ s.heap w) : Post ω B W0 μ s s' v (ρ' x) w := by
  have h' : some (ρ x, s) = some (v, s') := h
  cases h'; exact Post.same hR (hρ x)
theorem armPick_ok {c a b : Operand} {v : Value} (h : armPick c a b P call ρ s = some (v, s')) (hρ : ∀ x, VR ω μ (ρ x) (ρ' x)) (hR : Rel ω B W0 μ s.heap w) :
    ∃ t, ρ' c = .bool t ∧ Post ω B W0 μ s s' v (if t then ρ' a else ρ' b) w := by
  unfold armPick at h
  have hc := hρ c
  obtain ⟨m, hm, hh⟩ := app h
  clear h
  have h := hh
  clear hh
  split at hm
  case h_2 => subst hm; cases h
  rename_i t hρc
  subst hm
  obtain ⟨rfl, rfl⟩ := pure_inv h
  rw [hρc] at hc
  generalize ρ' c = u at hc ⊢
  cases hc with
  | bool t =>
    refine ⟨t, rfl, ?_⟩
    cases t
    · exact Post.same hR (hρ b)
    · exact Post.same hR (hρ a)
theorem armNilCheck_ok {x : Operand} {v : Value} (h : armNilCheck x P call ρ s = some (v, s')) (hρ : ∀ x, VR ω μ (ρ x) (ρ' x)) (hR : Rel ω B W0 μ s.heap w) {o : Oper} (ho : o.op = .nilCheck x) :
    Does P o ρ' w (Post ω B W0 μ s s' v) := by
  unfold armNilCheck at h
  have hc := hρ x
  obtain ⟨m, hm, hh⟩ := app h
  clear h
  have h := hh
  clear hh
  split at hm <;> subst hm
  · rename_i a hx
    obtain ⟨rfl, rfl⟩ := pure_inv h
    rw [hx] at hc
    generalize hu : ρ' x = u at hc
    cases hc with
    | ptr y off l hl => exact Does.next (n := .pointer (some ⟨l.blk, l.off + off, none⟩)) (by simp [execOp, ho, hu]) (Post.same hR (.ptr y off l hl))
    | box y sp l hl h0 => exact Does.next (n := .pointer (some ⟨l.blk, 0, none⟩)) (by simp [execOp, ho, hu]) (Post.same hR (.box y sp l hl h0))
  · rename_i f a b hx
    obtain ⟨rfl, rfl⟩ := pure_inv h
    rw [hx] at hc
    generalize hu : ρ' x = u at hc
    cases hc with
    | func fn a b a' b' ha hb hav hbv => exact Does.next (n := .func (.func f) a' b') (by simp [execOp, ho, hu]) (Post.same hR (.func _ a b a' b' ha hb hav hbv))
  · rename_i t v' hx
    obtain ⟨rfl, rfl⟩ := pure_inv h
    rw [hx] at hc
    generalize hu : ρ' x = u at hc
    cases hc with
    | iface _ _ v2 hv => exact Does.next (n := .iface t v2) (by simp [execOp, ho, hu]) (Post.same hR (.iface t v' v2 hv))
  · cases h
theorem field_inv {t : TypeId} {f off z : Nat} (h : field? P t f = some (off, z)) : ∃ fs fd, P.underlying t = some (.struct fs) ∧ fs[f]? = some fd ∧ fd.offset = off ∧ size? P fd.type = some z := by
  unfold field? at h
  split at h
  · rename_i fs hu
    cases hf : fs[f]? with
    | none => rw [hf] at h; cases h
    | some fd =>
      rw [hf] at h
      have h' : (size? P fd.type).map (fd.offset, ·) = some (off, z) := h
      cases hz : size? P fd.type with
      | none => rw [hz] at h'; cases h'
      | some z' =>
        rw [hz] at h'
        simp at h'
        obtain ⟨rfl, rfl⟩ := h'
        exact ⟨fs, fd, hu, hf, rfl, hz⟩
  · cases h
theorem addr_add (b o n : Nat) : (⟨b, o, none⟩ : Addr).add n = ⟨b, o + n, none⟩ := Addr.add_mid b o n
theorem armFieldAddr_ok {t : TypeId} {x : Operand} {f : Nat} {v : Value} (h : armFieldAddr t x f P call ρ s = some (v, s')) (hρ : ∀ x, VR ω μ (ρ x) (ρ' x)) (hR : Rel ω B W0 μ s.heap w) :
    Gives P (Instr.fieldAt t (ρ' x) f) w (Post ω B W0 μ s s' v) := by
  unfold armFieldAddr at h
  obtain ⟨⟨y, o⟩, s1, h1, h2⟩ := bind_inv h
  obtain ⟨hp, rfl⟩ := opt_inv h1
  obtain ⟨⟨off, z⟩, s2, h3, h4⟩ := bind_inv h2
  obtain ⟨hq, rfl⟩ := opt_inv h3
  dsimp only at h4
  obtain ⟨hz, h5⟩ := guard_inv h4
  obtain ⟨rfl, rfl⟩ := pure_inv h5
  obtain ⟨fs, fd, hu, hfd, rfl, hsz⟩ := field_inv hq
  have hx := hρ x
  rw [place_inv hp] at hx
  generalize ρ' x = u at hx ⊢
  cases hx with
  | ptr _ _ l hl =>
    have hz' : z ≠ 0 := by rintro rfl; simp at hz
    refine Gives.of_run (a := .pointer (some ⟨l.blk, l.off + o + fd.offset, none⟩)) (w' := w) ?_ (Post.same hR ?_)
    · simp [Instr.fieldAt, run_und w hu, hfd, Instr.sureAddr, fieldPlace, run_size w hsz, hz', addr_add]
    · have := VR.ptr (ω := ω) y (o + fd.offset) l hl
      rwa [← Nat.add_assoc] at this
theorem index_inv {i : Value} {n k : Nat} (h : index? i n = some k) : ∃ kd, i = .int kd k ∧ k < n := by
  unfold index? at h
  split at h
  · rename_i kd m
    cases hb : Nat.ble (Nat.succ m) n with
    | false => rw [hb] at h; cases h
    | true => rw [hb] at h; cases h; exact ⟨kd, rfl, Nat.le_of_ble_eq_true hb⟩
  · cases h
theorem armIndexAddr_ok {t : TypeId} {x i : Operand} {v : Value} (h : armIndexAddr t x i P call ρ s = some (v, s')) (hρ : ∀ x, VR ω μ (ρ x) (ρ' x)) (hR : Rel ω B W0 μ s.heap w) :
    Gives P (Instr.indexAt t (ρ' x) (ρ' i)) w (Post ω B W0 μ s s' v) := by
  unfold armIndexAddr at h
  obtain ⟨d, s1, h1, h2⟩ := bind_inv h
  obtain ⟨hu, rfl⟩ := opt_inv h1
  have hx := hρ x
  have hi := hρ i
  obtain ⟨m, hm, hh⟩ := app h2
  clear h2
  have h2 := hh
  clear hh
  split at hm <;> subst hm
  · rename_i e y o n k hrx
    obtain ⟨j, s2, h3, h4⟩ := bind_inv h2
    obtain ⟨hj, rfl⟩ := opt_inv h3
    obtain ⟨z, s3, h5, h6⟩ := bind_inv h4
    obtain ⟨hz, rfl⟩ := opt_inv h5
    obtain ⟨rfl, rfl⟩ := pure_inv h6
    obtain ⟨kd, hki, hlt⟩ := index_inv hj
    rw [hki] at hi
    rw [hrx] at hx
    generalize ρ' x = u at hx ⊢
    generalize ρ' i = ui at hi ⊢
    cases hi with
    | int _ _ =>
    cases hx with
    | slice _ _ _ _ k' l hl hk hr =>
      refine Gives.of_run (a := .pointer (some ⟨l.blk, l.off + o + j * z, none⟩)) (w' := w) ?_ (Post.same hR ?_)
      · simp [Instr.indexAt, asIntOf, run_und w hu, run_size w hz, addr_add, hlt]
      · have := VR.ptr (ω := ω) y (o + j * z) l hl
        rwa [← Nat.add_assoc] at this
    | sliceEmpty => omega
  · rename_i n e hv
    obtain ⟨⟨y, o⟩, s2, h3, h4⟩ := bind_inv h2
    obtain ⟨hp, rfl⟩ := opt_inv h3
    obtain ⟨j, s3, h5, h6⟩ := bind_inv h4
    obtain ⟨hj, rfl⟩ := opt_inv h5
    obtain ⟨z, s4, h7, h8⟩ := bind_inv h6
    obtain ⟨hz, rfl⟩ := opt_inv h7
    obtain ⟨rfl, rfl⟩ := pure_inv h8
    obtain ⟨kd, hki, hlt⟩ := index_inv hj
    rw [hki] at hi
    rw [place_inv hp] at hx
    generalize ρ' x = u at hx ⊢
    generalize ρ' i = ui at hi ⊢
    cases hi with
    | int _ _ =>
    cases hx with
    | ptr _ _ l hl =>
      refine Gives.of_run (a := .pointer (some ⟨l.blk, l.off + o + j * z, none⟩)) (w' := w) ?_ (Post.same hR ?_)
      · simp [Instr.indexAt, asIntOf, run_und w hu, run_size w hz, addr_add, hlt, Instr.sureAddr]
      · have := VR.ptr (ω := ω) y (o + j * z) l hl
        rwa [← Nat.add_assoc] at this
  · cases h2
theorem armExtract_ok {t : Operand} {i : Nat} {v : Value} (h : armExtract t i P call ρ s = some (v, s')) (hρ : ∀ x, VR ω μ (ρ x) (ρ' x)) (hR : Rel ω B W0 μ s.heap w) :
    Gives P (Instr.extract (ρ' t) i) w (Post ω B W0 μ s s' v) := by
  unfold armExtract at h
  have hx := hρ t
  obtain ⟨m, hm, hh⟩ := app h
  clear h
  have h := hh
  clear hh
  split at hm <;> subst hm
  · rename_i vs hv
    obtain ⟨hi, rfl⟩ := opt_inv h
    rw [hv] at hx
    generalize ρ' t = u at hx ⊢
    cases hx with
    | tuple _ a' ha hav =>
      have hlt : i < vs.size := (Array.getElem?_eq_some_iff.1 hi).1
      have hb : a'[i]? = some (a'[i]'(ha ▸ hlt)) := Array.getElem?_eq_getElem _
      exact Gives.of_run (a := a'[i]'(ha ▸ hlt)) (w' := w) (by simp [Instr.extract, hb]) (Post.same hR (hav i v _ hi hb))
  · cases h
theorem armMakeInterface_ok {t : TypeId} {x : Operand} {v : Value} (h : armMakeInterface t x P call ρ s = some (v, s')) (hρ : ∀ x, VR ω μ (ρ x) (ρ' x)) (hR : Rel ω B W0 μ s.heap w) :
    Gives P (Instr.makeInterface t (ρ' x)) w (Post ω B W0 μ s s' v) := by
  unfold armMakeInterface at h
  obtain ⟨m, hm, hh⟩ := app h
  clear h
  have h := hh
  clear hh
  split at hm <;> subst hm
  · cases h
  · cases h
  · rename_i h1 h2
    obtain ⟨rfl, rfl⟩ := pure_inv h
    cases hu : P.underlying t with
    | none => exact absurd hu h1
    | some d =>
      refine Gives.of_run (a := .iface t (ρ' x)) (w' := w) ?_ (Post.same hR (.iface t _ _ (hρ x)))
      unfold Instr.makeInterface
      rw [Sem.run_bind, run_und w hu, Result.andThen_ok]
      cases d <;> first | rfl | exact absurd hu (h2 _)
theorem map_VRs (hρ : ∀ x, VR ω μ (ρ x) (ρ' x)) (l : List Operand) : VRs ω μ (l.map ρ) (l.map ρ') := by
  induction l with
  | nil => exact VRs.nil
  | cons x l ih => exact VRs.cons (hρ x) ih
theorem arr_VR (hρ : ∀ x, VR ω μ (ρ x) (ρ' x)) (a : Array Operand) (i : Nat) (v v' : Value) (e : (a.map ρ)[i]? = some v) (e' : (a.map ρ')[i]? = some v') : VR ω μ v v' := by
  simp only [Array.getElem?_map] at e e'
  cases h : a[i]? with
  | none => rw [h] at e; cases e
  | some x => rw [h] at e e'; cases e; cases e'; exact hρ x
theorem armMakeFunc_ok {fn : Fn} {a b : Array Operand} {v : Value} (h : armMakeFunc fn a b P call ρ s = some (v, s')) (hρ : ∀ x, VR ω μ (ρ x) (ρ' x)) (hR : Rel ω B W0 μ s.heap w) :
    Gives P (Instr.makeFunc fn (a.map ρ') (b.map ρ')) w (Post ω B W0 μ s s' v) := by
  have h' : some (Value.func fn (a.map ρ) (b.map ρ), s) = some (v, s') := h
  cases h'
  exact Gives.of_run (a := .func fn (a.map ρ') (b.map ρ')) (w' := w) rfl (Post.same hR (.func fn _ _ _ _ (by simp) (by simp) (arr_VR hρ a) (arr_VR hρ b)))
theorem armTypeAssert_ok {x : Operand} {t a : TypeId} {ok : Bool} {v : Value} (h : armTypeAssert x a ok P call ρ s = some (v, s')) (hρ : ∀ x, VR ω μ (ρ x) (ρ' x)) (hR : Rel ω B W0 μ s.heap w) :
    Gives P (Instr.typeAssert (ρ' x) t a ok) w (Post ω B W0 μ s s' v) := by
  unfold armTypeAssert at h
  have hx := hρ x
  obtain ⟨m, hm, hh⟩ := app h
  clear h
  have h := hh
  clear hh
  split at hm <;> subst hm
  · cases h
  · cases h
  · rename_i t' v' h1 h2 h3
    obtain ⟨hb, h4⟩ := guard_inv' h
    obtain ⟨rfl, rfl⟩ := pure_inv h4
    have : t' = a := Nat.eq_of_beq_eq_true hb
    subst this
    rw [h1] at hx
    generalize ρ' x = u at hx ⊢
    cases hx with
    | iface _ _ v2 hv =>
      cases hu : P.underlying t' with
      | none => exact absurd hu h2
      | some d =>
        refine Gives.of_run (a := if ok then .tuple #[v2, .bool true] else v2) (w' := w) ?_ (Post.same hR ?_)
        · unfold Instr.typeAssert
          simp only
          rw [Sem.run_bind, run_und w hu, Result.andThen_ok]
          cases d <;> first | exact absurd hu (h3 _) | (cases ok <;> simp)
        · cases ok
          · exact hv
          · exact VR.tuple_of (VRs.cons hv (VRs.cons (.bool true) VRs.nil))
  · cases h
theorem armAlloc_ok {e : TypeId} {v : Value} (h : armAlloc e P call ρ s = some (v, s')) (hR : Rel ω B W0 μ s.heap w) (h4 : 4096 ≤ s.next) (hf : Fresh μ s.next s'.next) :
    Gives P (Instr.alloc e true (.tuple #[])) w (Post ω B W0 μ s s' v) := by
  unfold armAlloc at h
  obtain ⟨z, s1, h1, h2⟩ := bind_inv h
  obtain ⟨hz, rfl⟩ := opt_inv h1
  obtain ⟨hfl, h3⟩ := guard_inv' h2
  refine Gives.of_run (a := .pointer (some ⟨w.heap.size, 0, none⟩)) (w' := w.alloc (.cells z.cells.toList.toArray e)) ?_ (newCells_ok h3 hR h4 hf (VRs.refl_flat hfl))
  simp [Instr.alloc, run_zero w hz, newVar, newRow]
theorem armBox_ok {e : TypeId} {x : Operand} {v : Value} (hω : ∀ k, (ω k).oneCell' = true) (h : armBox e x P call ρ s = some (v, s')) (hρ : ∀ x, VR ω μ (ρ x) (ρ' x)) (hR : Rel ω B W0 μ s.heap w) (h4 : 4096 ≤ s.next) (hf : Fresh μ s.next s'.next) :
    Gives P (Instr.box e (ρ' x)) w (Post ω B W0 μ s s' v) := by
  unfold armBox at h
  obtain ⟨hfl, h3⟩ := guard_inv' h
  have hj : ρ x ≠ .chan none := by intro e; rw [e] at hfl; simp [Value.cells, one] at hfl
  refine Gives.of_run (a := .pointer (some ⟨w.heap.size, 0, none⟩)) (w' := w.alloc (.cells (ρ' x).cells.toList.toArray e)) ?_ (newCells_ok h3 hR h4 hf ((hρ x).cells hω hj))
  simp [Instr.box, newVar, newRow]
end ops
end Go.Ev
