/- PART EvN2 of a proof by an evaluator of the model that is proved sound. -/
import Derived.Test.YtfcjpkigaagnaaaGreatDoorEvN
set_option linter.unusedVariables false
set_option linter.unusedSimpArgs false
namespace Go.Ev
open Go Go.RowKit
/-- bytealg.IndexByte of a slice. -/
noncomputable def natIndexB : List Value → E Value
  | [a, .int .u8 c] => do
    let x ← bytesIn a
    pure (match (List.range x.length).find? fun i => (⟨x.toArray⟩ : ByteArray)[i]! == c.toNat.toUInt8 with
      | some i => goInt i
      | none => goInt (-1))
  | _ => fail
/-- A copy of a string is the string. -/
noncomputable def natStr : List Value → E Value
  | [.string s] => bif Nat.ble s.size 1000000 then pure (.string s) else fail
  | _ => fail
theorem Fr.natIndexB (xs : List Value) : Fr (Go.Ev.natIndexB xs) := by
  unfold Go.Ev.natIndexB
  (repeat' (first | exact Fr.pure _ | exact Fr.fail | exact Fr.bytesIn _ | apply Fr.bind | intro _ | split))
theorem Fr.natStr (xs : List Value) : Fr (Go.Ev.natStr xs) := by
  unfold Go.Ev.natStr
  (repeat' (first | exact Fr.pure _ | exact Fr.fail | apply Fr.cond | apply Fr.bind | intro _ | split))
section
variable {P : Program} {ω : Nat → Value} {B : Nat} {W0 : World} {μ : Mp} {w w' : World} {H : T AObj}
/-- Nothing that lay before has turned: what was known is known. -/
theorem Rel.behind (h : Rel ω B W0 μ H w) (hb : Below w.heap.size w w') : Rel ω B W0 μ H w' :=
  ⟨fun x o hx ho => let ⟨l, hl, hr⟩ := h.obj x o hx ho; ⟨l, hl, hr.block (hb.block _ (h.blk_lt hx ho hl))⟩, h.inj, h.own, h.glob, h.base,
    ⟨hb.os.trans h.below.os, hb.tape.trans h.below.tape, hb.output.trans h.below.output, Nat.le_trans h.below.size hb.size, fun b hlt => (hb.block b (by have := h.size; omega)).trans (h.below.block b hlt)⟩⟩
theorem natIndexB_ok {f : FuncId} {fn : Func} (hf : P.funcs[f]? = some fn) (hname : (fn.name == "runtime.NumGoroutine") = false)
    (hb : fn.body.isNone = true) (hn : Extern.findNext fn = none) (he : Extern.find fn = some Extern.BytealgIndexByte.indexByte) : NatOk P ω B W0 f natIndexB := by
  intro as s v s' h μ w ras hR hbd h4 hfr hvs
  unfold natIndexB at h
  obtain ⟨mm, hmm, hh⟩ := app h
  clear h
  split at hmm <;> subst hmm
  case h_2 => cases hh
  rename_i a c
  obtain ⟨x, s1, h1, h2⟩ := bind_inv hh
  obtain ⟨rfl, rfl⟩ := pure_inv h2
  have hl := hvs.1
  obtain ⟨a', b', rfl⟩ : ∃ a' b', ras = [a', b'] := by
    match ras, hl with
    | [a', b'], _ => exact ⟨a', b', rfl⟩
  have ha : VR ω μ a a' := hvs.2 0 _ _ rfl rfl
  have hb' : VR ω μ (.int .u8 c) b' := hvs.2 1 _ _ rfl rfl
  cases hb'
  obtain ⟨rfl, hx⟩ := bytesIn_ok h1 ha hR
  refine callR_extern hf hname hb hn he (Gives.of_run (w' := w) (a := match (List.range x.length).find? fun i => (⟨x.toArray⟩ : ByteArray)[i]! == c.toNat.toUInt8 with | some i => goInt i | none => goInt (-1)) ?_ (Post.same hR ?_))
  · show (Extern.Bytes.bytesOf a' >>= _).run P w = _
    rw [Sem.run_bind, hx, Result.andThen_ok]
    show (match (List.range x.toArray.size).find? fun i => (⟨x.toArray⟩ : ByteArray)[i]! == c.toNat.toUInt8 with | some i => (pure (goInt i) : Sem Value) | none => pure (goInt (-1))).run P w = _
    rw [List.size_toArray]
    cases (List.range x.length).find? fun i => (⟨x.toArray⟩ : ByteArray)[i]! == c.toNat.toUInt8 <;> rfl
  · cases (List.range x.length).find? fun i => (⟨x.toArray⟩ : ByteArray)[i]! == c.toNat.toUInt8 <;> exact .int _ _
theorem natStr_ok {f : FuncId} {fn : Func} {c : Code} (hf : P.funcs[f]? = some fn) (hname : (fn.name == "runtime.NumGoroutine") = false) (hb : fn.body = some c)
    (hc : ∀ (s : ByteArray) (w : World), s.size ≤ 281474976710656 → Calls P f #[.string s] w fun e w' => e = .returned (.string s) ∧ Below w.heap.size w w') : NatOk P ω B W0 f natStr := by
  intro as s v s' h μ w ras hR hbd h4 hfr hvs
  unfold natStr at h
  obtain ⟨mm, hmm, hh⟩ := app h
  clear h
  split at hmm <;> subst hmm
  case h_2 => cases hh
  rename_i st
  obtain ⟨hsz, h2⟩ := guard_inv' hh
  obtain ⟨rfl, rfl⟩ := pure_inv h2
  have hsz := Nat.le_of_ble_eq_true hsz
  have hl := hvs.1
  obtain ⟨a', rfl⟩ : ∃ a', ras = [a'] := by
    match ras, hl with
    | [a'], _ => exact ⟨a', rfl⟩
  have ha : VR ω μ (.string st) a' := hvs.2 0 _ _ rfl rfl
  cases ha
  refine callR_enter hf hname hb ((hc st w (by omega)).mono fun e w' ⟨he, hbl⟩ => ?_)
  subst he
  exact ⟨μ, Ext.refl _ _ _, hR.behind hbl, .string _⟩
end
end Go.Ev
