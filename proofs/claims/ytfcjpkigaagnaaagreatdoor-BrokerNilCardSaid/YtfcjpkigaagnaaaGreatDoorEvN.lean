/- PART EvN of a proof by an evaluator of the model that is proved sound. -/
import Derived.Test.YtfcjpkigaagnaaaGreatDoorEvI
import GoSem.Extern.Table
import GoSem.Extern.BytealgCompare
import GoSem.Extern.BytealgIndexByte
import GoSem.Extern.MapsClone
import Derived.Laws.Externs
set_option linter.unusedVariables false
set_option linter.unusedSimpArgs false
namespace Go.Ev
open Go Go.RowKit
/-- The bytes of a slice. -/
noncomputable def bytesIn : Value → E (List UInt8)
  | .slice a n _ => bif Nat.beq n 0 then pure [] else
    match a with
    | some ⟨x, off, none⟩ => do
      let (c, _) ← rdCells x
      let l ← opt (take? c off n)
      opt (bytesOf? l)
    | _ => fail
  | _ => fail
noncomputable def natClone : List Value → E Value
  | [.iface t (.map (some r))] => do
    let (es, k) ← rdMap r
    pure (.iface t (.map (some (← nw (.map es k)))))
  | _ => fail
noncomputable def natCompare : List Value → E Value
  | [a, b] => do
    let x ← bytesIn a
    let y ← bytesIn b
    pure (goInt (Extern.BytealgCompare.cmp ⟨x.toArray⟩ ⟨y.toArray⟩))
  | _ => fail
noncomputable def natIndex : List Value → E Value
  | [.string s, .int .u8 c] => pure (match (List.range s.size).find? fun i => s[i]! == c.toNat.toUInt8 with
    | some i => goInt i
    | none => goInt (-1))
  | _ => fail
section fr
theorem Fr.bytesIn (v : Value) : Fr (Go.Ev.bytesIn v) := by
  unfold Go.Ev.bytesIn
  (repeat' (first | exact Fr.pure _ | exact Fr.fail | exact Fr.opt _ | exact Fr.rdCells _ | apply Fr.cond | apply Fr.bind | intro _ | split))
theorem Fr.natClone (as : List Value) : Fr (Go.Ev.natClone as) := by
  unfold Go.Ev.natClone
  (repeat' (first | exact Fr.pure _ | exact Fr.fail | exact Fr.opt _ | exact Fr.rdMap _ | exact Fr.nw _ | apply Fr.cond | apply Fr.bind | intro _ | split))
theorem Fr.natCompare (as : List Value) : Fr (Go.Ev.natCompare as) := by
  unfold Go.Ev.natCompare
  (repeat' (first | exact Fr.pure _ | exact Fr.fail | exact Fr.bytesIn _ | apply Fr.bind | intro _ | split))
theorem Fr.natIndex (as : List Value) : Fr (Go.Ev.natIndex as) := by
  unfold Go.Ev.natIndex
  (repeat' (first | exact Fr.pure _ | exact Fr.fail | apply Fr.bind | intro _ | split))
end fr
section
variable {P : Program} {ω : Nat → Value} {B : Nat} {W0 : World} {μ : Mp} {w : World} {s s' : St}
theorem callR_extern {f : FuncId} {fn : Func} {e : Array Value → Sem Value} {args : Array Value} {R : Value → World → Prop} (hf : P.funcs[f]? = some fn) (hname : (fn.name == "runtime.NumGoroutine") = false)
    (hb : fn.body.isNone = true) (hn : Extern.findNext fn = none) (he : Extern.find fn = some e) (h : Gives P (e args) w R) : CallR P f args w R := by
  obtain ⟨u, w', h1, h2⟩ := h
  unfold CallR
  rw [run_callFunc_extern hf hname hb hn he, h1, Result.andThen_ok]
  exact h2
theorem run_loadBytes : ∀ (us : List Value) (b : List UInt8), bytesOf? us = some b → ∀ (a : Addr) (acc : ByteArray), (∀ j v, us[j]? = some v → w.cell? (a.add j) = some v) →
    (Extern.Bytes.loadBytes a us.length acc).run P w = .ok ⟨acc.data ++ b.toArray⟩ w
  | [], b, h, a, acc, hc => by
    simp only [bytesOf?, Option.some.injEq] at h
    subst h
    simp [Extern.Bytes.loadBytes]
  | v :: us, b, h, a, acc, hc => by
    unfold bytesOf? at h
    split at h
    · rename_i n
      cases hb : bytesOf? us with
      | none => rw [hb] at h; cases h
      | some b' =>
        rw [hb] at h
        cases h
        have h0 := hc 0 _ rfl
        have e0 : a.add 0 = a := by simp [Addr.add]
        rw [e0] at h0
        show (Extern.Bytes.loadBytes a (us.length + 1) acc).run P w = _
        unfold Extern.Bytes.loadBytes
        rw [Sem.run_bind, show (Go.load a).run P w = .ok (.int .u8 n) w by rw [run_load, h0], Result.andThen_ok]
        dsimp only
        rw [run_loadBytes us b' hb (a.add 1) _ (fun j v hv => by
          have := hc (j + 1) v (by simpa using hv)
          rw [← this]
          congr 1
          unfold Addr.add
          by_cases hj : j = 0 <;> simp [hj, Nat.add_assoc, Nat.add_comm 1 j])]
        congr 1
        simp [ByteArray.push, Nat.toUInt8]
    · cases h
theorem bytesIn_ok {x x' : Value} {b : List UInt8} (h : bytesIn x s = some (b, s')) (hx : VR ω μ x x') (hR : Rel ω B W0 μ s.heap w) : s' = s ∧ (Extern.Bytes.bytesOf x').run P w = .ok ⟨b.toArray⟩ w := by
  unfold bytesIn at h
  obtain ⟨mm, hmm, hh⟩ := app h
  clear h
  split at hmm <;> subst hmm
  case h_2 => cases hh
  rename_i a n k
  rcases cond_inv hh with ⟨hn, h1⟩ | ⟨hn, h1⟩
  · have hn := Nat.eq_of_beq_eq_true hn
    subst hn
    obtain ⟨rfl, rfl⟩ := pure_inv h1
    refine ⟨rfl, ?_⟩
    cases hx <;> rfl
  · cases a with
    | none => cases h1
    | some ad =>
      obtain ⟨y, off, sp⟩ := ad
      cases sp with
      | some q => cases h1
      | none =>
        dsimp only at h1
        obtain ⟨⟨c, ce⟩, s1, h2, h3⟩ := bind_inv h1
        obtain ⟨rfl, hmk, hg⟩ := rdCells_inv h2
        dsimp only at h3 hg
        obtain ⟨cs, s2, h4, h5⟩ := bind_inv h3
        obtain ⟨htk, rfl⟩ := opt_inv h4
        obtain ⟨hby, rfl⟩ := opt_inv h5
        obtain ⟨htl, rfl⟩ := take_some htk
        obtain ⟨l0, hl0, ho⟩ := hR.cells hg
        refine ⟨rfl, ?_⟩
        cases hx with
        | slice _ _ _ _ k' l hl hk hr =>
          have e0 : l0 = l := by rw [hl] at hl0; cases hl0; rfl
          subst e0
          obtain ⟨us, hv, hcell⟩ := ho.piece htl
          have hlen : us.length = n := by rw [← hv.1]; simp; omega
          have hus := (bytes_run (P := P) (w := w) hby hv).1
          rw [← hus] at hby
          have := run_loadBytes (P := P) (w := w) us b hby ⟨l0.blk, l0.off + off, none⟩ .empty (fun j v hv => by rw [Addr.add_mid]; exact hcell j v hv)
          rw [hlen] at this
          show (Extern.Bytes.loadBytes ⟨l0.blk, l0.off + off, none⟩ n .empty).run P w = _
          rw [this]
          have e : (⟨ByteArray.empty.data ++ b.toArray⟩ : ByteArray) = ⟨b.toArray⟩ := by
            show ByteArray.mk (#[] ++ b.toArray) = _
            simp
          rw [e]
        | sliceEmpty => simp at hn
theorem natClone_ok {f : FuncId} {fn : Func} (hf : P.funcs[f]? = some fn) (hname : (fn.name == "runtime.NumGoroutine") = false)
    (hb : fn.body.isNone = true) (hn : Extern.findNext fn = none) (he : Extern.find fn = some Extern.MapsClone.clone) : NatOk P ω B W0 f natClone := by
  intro as s v s' h μ w ras hR hbd h4 hfr hvs
  unfold natClone at h
  obtain ⟨mm, hmm, hh⟩ := app h
  clear h
  split at hmm <;> subst hmm
  case h_2 => cases hh
  rename_i t r
  obtain ⟨⟨es, k⟩, s1, h1, h2⟩ := bind_inv hh
  obtain ⟨rfl, hm, hg⟩ := rdMap_inv h1
  dsimp only at h2 hg
  obtain ⟨y, s2, h3, h5⟩ := bind_inv h2
  have h3 : some (s1.next, ({ heap := s1.heap.set s1.next (.map es k), next := Nat.succ s1.next, low := s1.low, mask := s1.mask } : St)) = some (y, s2) := h3
  cases h3
  obtain ⟨rfl, rfl⟩ := pure_inv h5
  have hl := hvs.1
  obtain ⟨u, hu, hv⟩ := hvs.get (i := 0) rfl
  obtain ⟨u', rfl⟩ : ∃ u', ras = [u'] := by
    match ras, hl with
    | [u'], _ => exact ⟨u', rfl⟩
  cases hu
  refine callR_extern hf hname hb hn he ?_
  cases hv with
  | iface _ _ v' hv' =>
    cases hv' with
    | map _ l hlx =>
      obtain ⟨l0, hl0, es', hblk, hsz, hes⟩ := hR.obj _ _ hg (by simp)
      have e0 : l0 = l := by rw [hlx] at hl0; cases hl0; rfl
      subst e0
      have hfresh : μ s1.next = none := hfr s1.next (Nat.le_refl _) (Nat.lt_succ_self _)
      obtain ⟨μ', h1, h2, h3⟩ := nw_ok (R := .map es' k) (room := 0) (o := .map es k) hR h4 hfresh (fun μ' hμ' => ⟨es', by show (w.heap.push _)[w.heap.size]? = _; rw [Array.getElem?_push, if_pos rfl], hsz, fun i e e' q1 q2 => let ⟨a, b, c⟩ := hes i e e' q1 q2; ⟨a, b, c.ext hμ'⟩⟩)
      refine ⟨.iface t (.map (some w.heap.size)), w.alloc (.map es' k), ?_, μ', h1, h2, .iface _ _ _ ?_⟩
      · show (Extern.MapsClone.clone #[.iface t (.map (some l0.blk))]).run P w = _
        unfold Extern.MapsClone.clone
        show (Go.getObj l0.blk >>= _).run P w = _
        rw [Sem.run_bind, run_getMap hblk]
        rfl
      · have := VR.map (ω := ω) s1.next _ h3
        exact this
theorem natCompare_ok {f : FuncId} {fn : Func} (hf : P.funcs[f]? = some fn) (hname : (fn.name == "runtime.NumGoroutine") = false)
    (hb : fn.body.isNone = true) (hn : Extern.findNext fn = none) (he : Extern.find fn = some Extern.BytealgCompare.compare) : NatOk P ω B W0 f natCompare := by
  intro as s v s' h μ w ras hR hbd h4 hfr hvs
  unfold natCompare at h
  obtain ⟨mm, hmm, hh⟩ := app h
  clear h
  split at hmm <;> subst hmm
  case h_2 => cases hh
  rename_i a b
  obtain ⟨x, s1, h1, h2⟩ := bind_inv hh
  obtain ⟨y, s2, h3, h5⟩ := bind_inv h2
  obtain ⟨rfl, rfl⟩ := pure_inv h5
  have hl := hvs.1
  obtain ⟨a', b', rfl⟩ : ∃ a' b', ras = [a', b'] := by
    match ras, hl with
    | [a', b'], _ => exact ⟨a', b', rfl⟩
  have ha : VR ω μ a a' := hvs.2 0 _ _ rfl rfl
  have hb' : VR ω μ b b' := hvs.2 1 _ _ rfl rfl
  obtain ⟨rfl, hx⟩ := bytesIn_ok h1 ha hR
  obtain ⟨rfl, hy⟩ := bytesIn_ok h3 hb' hR
  refine callR_extern hf hname hb hn he (Gives.of_run (a := goInt (Extern.BytealgCompare.cmp ⟨x.toArray⟩ ⟨y.toArray⟩)) (w' := w) ?_ (Post.same hR (.int _ _)))
  show (do pure (goInt (Extern.BytealgCompare.cmp (← Extern.Bytes.bytesOf a') (← Extern.Bytes.bytesOf b'))) : Sem Value).run P w = _
  rw [Sem.run_bind, hx, Result.andThen_ok, Sem.run_bind, hy, Result.andThen_ok]
  rfl
theorem natIndex_ok {f : FuncId} {fn : Func} (hf : P.funcs[f]? = some fn) (hname : (fn.name == "runtime.NumGoroutine") = false)
    (hb : fn.body.isNone = true) (hn : Extern.findNext fn = none) (he : Extern.find fn = some Extern.BytealgIndexByte.indexByte) : NatOk P ω B W0 f natIndex := by
  intro as s v s' h μ w ras hR hbd h4 hfr hvs
  unfold natIndex at h
  obtain ⟨mm, hmm, hh⟩ := app h
  clear h
  split at hmm <;> subst hmm
  case h_2 => cases hh
  rename_i st c
  obtain ⟨rfl, rfl⟩ := pure_inv hh
  have hl := hvs.1
  obtain ⟨a', b', rfl⟩ : ∃ a' b', ras = [a', b'] := by
    match ras, hl with
    | [a', b'], _ => exact ⟨a', b', rfl⟩
  have ha : VR ω μ (.string st) a' := hvs.2 0 _ _ rfl rfl
  have hb' : VR ω μ (.int .u8 c) b' := hvs.2 1 _ _ rfl rfl
  cases ha
  cases hb'
  refine callR_extern hf hname hb hn he (Gives.of_run (w' := w) (a := match (List.range st.size).find? fun i => st[i]! == c.toNat.toUInt8 with | some i => goInt i | none => goInt (-1)) ?_ (Post.same hR ?_))
  · show (match (List.range st.size).find? fun i => st[i]! == c.toNat.toUInt8 with | some i => (pure (goInt i) : Sem Value) | none => pure (goInt (-1))).run P w = _
    cases (List.range st.size).find? fun i => st[i]! == c.toNat.toUInt8 <;> rfl
  · cases (List.range st.size).find? fun i => st[i]! == c.toNat.toUInt8 <;> exact .int _ _
end
end Go.Ev
