/- PART EvQ6 of a proof by an evaluator of the model that is proved sound. -/
import Derived.Test.YtkaeneplpelgeaaGreatDoorEvQ5
set_option linter.unusedVariables false
set_option linter.unusedSimpArgs false
namespace Go.Ev
open Go Go.RowKit
section ops
variable {P : Program} {ω : Nat → Value} {B : Nat} {W0 : World} {μ : Mp} {w : World} {s s' : St} {call : FuncId → List Value → E Value} {ρ ρ' : Operand → Value}

theorem freeze_block (w : World) (a : Addr) (n b : Nat) (h : b ≠ a.block) : (w.freeze a n).heap[b]? = w.heap[b]? := by
  unfold World.freeze
  split
  · rfl
  · simp only [Array.getElem?_modify]; rw [if_neg (fun e => h e.symm)]
theorem freeze_cell (w : World) (a : Addr) (n : Nat) (p : Addr) : (w.freeze a n).cell? p = w.cell? p := by
  unfold World.freeze
  split
  · rfl
  · simp only [World.cell?, Array.getElem?_modify]
    by_cases hb : a.block = p.block
    · rw [if_pos hb]
      cases hh : w.heap[p.block]? with
      | none => rfl
      | some o => cases o <;> rfl
    · rw [if_neg hb]
theorem freeze_size (w : World) (a : Addr) (n : Nat) : (w.freeze a n).heap.size = w.heap.size := by
  unfold World.freeze; split <;> simp
theorem Row.freeze {b n : Nat} (h : Row w b n) : Row (w.freeze ⟨b, n, none⟩ 1) b n := by
  obtain ⟨C, e, lo, hi, hb, hs, hf⟩ := h
  have hh : (w.freeze ⟨b, n, none⟩ 1).heap[b]? = Option.some (.cells C e (if lo == hi then (n, n + 1) else (min lo n, max hi (n + 1)))) := by
    unfold World.freeze
    rw [if_neg (by omega)]
    simp only [Array.getElem?_modify, if_true, hb, Option.map_some]
  by_cases hl : lo = hi
  · have : (lo == hi) = true := by simpa using hl
    rw [this] at hh
    exact ⟨C, e, n, n + 1, hh, hs, .inr (Nat.le_refl _)⟩
  · have : (lo == hi) = false := by simpa using hl
    rw [this] at hh
    exact ⟨C, e, min lo n, max hi (n + 1), hh, hs, .inr (by omega)⟩
theorem Rel.mark {H : T AObj} (hR : Rel ω B W0 μ H w) {y : Nat} {c : List Value} {e : TypeId} {l : Loc} (h4 : 4096 ≤ y) (hg : H.get y = some (.cells c e)) (hl : μ y = some l) :
    Rel ω B W0 μ H (w.freeze ⟨l.blk, l.off + l.room, none⟩ 1) := by
  obtain ⟨l0, hl0, ho⟩ := hR.obj y _ hg (by simp)
  have e0 : l0 = l := by rw [hl] at hl0; cases hl0; rfl
  subst e0
  have hos : (w.freeze ⟨l0.blk, l0.off + l0.room, none⟩ 1).os = w.os := by unfold World.freeze; split <;> rfl
  have htp : (w.freeze ⟨l0.blk, l0.off + l0.room, none⟩ 1).tape = w.tape := by unfold World.freeze; split <;> rfl
  have hou : (w.freeze ⟨l0.blk, l0.off + l0.room, none⟩ 1).output = w.output := by unfold World.freeze; split <;> rfl
  have := hR.turn (w' := w.freeze ⟨l0.blk, l0.off + l0.room, none⟩ 1) (o' := .cells c e) h4 hg (by simp) hl hos htp hou (by rw [freeze_size]; exact Nat.le_refl _)
    (fun b _ hb => freeze_block _ _ _ _ hb) (fun _ => ⟨ho.1.freeze, ho.2.1, fun i v hv => by rw [freeze_cell]; exact ho.2.2 i v hv⟩)
  exact this.congr fun x o hx _ => by
    by_cases hxy : x = y
    · rw [hxy, T.get_set_self, ← hg, ← hxy]; exact hx
    · rw [T.get_set_ne _ _ hxy]; exact hx
theorem run_mark {b n : Nat} (h : Row w b n) (o : Nat) : (markStringish ⟨b, o, none⟩).run P w = .ok () (w.freeze ⟨b, n, none⟩ 1) := by
  obtain ⟨e, he⟩ := h.shape
  unfold markStringish
  rw [Sem.run_bind, run_shape, Result.andThen_ok]
  dsimp only
  rw [he]
  rfl
theorem isByte_inv {e : TypeId} (h : isByte P e = true) : P.underlying e = some (.int .u8) := by
  unfold isByte at h
  split at h
  · assumption
  · cases h
theorem bytes_run : ∀ {c us : List Value} {b : List UInt8}, bytesOf? c = some b → VRs ω μ c us → us = c ∧ ∀ (acc : ByteArray),
    (forIn (m := Sem) us acc fun c r => match c with
      | .int .u8 n => pure (ForInStep.yield (r.push (UInt8.ofNat n.toNat)))
      | _ => do
        stuck "bytesToString: byte expected"
        pure (ForInStep.yield r)).run P w = .ok ⟨acc.data ++ b.toArray⟩ w := by
  intro c
  induction c with
  | nil =>
    intro us b h hs
    have : us = [] := List.length_eq_zero_iff.1 hs.1.symm
    subst this
    simp only [bytesOf?, Option.some.injEq] at h
    subst h
    exact ⟨rfl, fun acc => by simp⟩
  | cons v c ih =>
    intro us b h hs
    cases us with
    | nil => have := hs.1; simp at this
    | cons u us =>
      have hv : VR ω μ v u := hs.2 0 v u rfl rfl
      have hr : VRs ω μ c us := ⟨by have := hs.1; simpa using this, fun i a b e e' => hs.2 (i + 1) a b (by simpa using e) (by simpa using e')⟩
      unfold bytesOf? at h
      split at h
      · rename_i n
        have hu := VR.flat (v := .int .u8 n) rfl hv
        subst hu
        cases hb : bytesOf? c with
        | none => rw [hb] at h; cases h
        | some b' =>
          rw [hb] at h
          cases h
          obtain ⟨e1, e2⟩ := ih hb hr
          refine ⟨by rw [e1], fun acc => ?_⟩
          rw [List.forIn_cons, Sem.run_bind]
          dsimp only
          rw [Sem.run_pure, Result.andThen_ok]
          dsimp only
          rw [e2]
          congr 1
          simp [ByteArray.push]
      · cases h
theorem armConvert_ok {a d : TypeId} {x : Operand} {v : Value} (h : armConvert a d x P call ρ s = some (v, s')) (hρ : ∀ x, VR ω μ (ρ x) (ρ' x)) (hR : Rel ω B W0 μ s.heap w) (h4 : 4096 ≤ s.next) (hf : Fresh μ s.next s'.next) :
    Gives P (convert a d (ρ' x)) w (Post ω B W0 μ s s' v) := by
  unfold armConvert at h
  have hx := hρ x
  obtain ⟨m, hm, hh⟩ := app h
  clear h
  split at hm <;> subst hm
  · rename_i base n k hrx
    obtain ⟨us, s1, h1, h2⟩ := bind_inv hh
    obtain ⟨hus, rfl⟩ := opt_inv h1
    obtain ⟨ud, s2, h3, h5⟩ := bind_inv h2
    obtain ⟨hud, rfl⟩ := opt_inv h3
    rw [hrx] at hx
    generalize ρ' x = u at hx ⊢
    obtain ⟨m, hm, hh⟩ := app h5
    clear h5
    split at hm <;> subst hm
    · rename_i e
      obtain ⟨hb, h6⟩ := guard_inv hh
      have hby := isByte_inv (show isByte P e = true by simpa using hb)
      have hconv : ∀ x : Value, (∃ a n k, x = .slice a n k) → (convert a d x).run P w = (Conv.bytesToString x).run P w := by
        rintro _ ⟨b, n, k, rfl⟩
        unfold convert
        rw [Sem.run_bind, run_und w hus, Result.andThen_ok, Sem.run_bind, run_und w hud, Result.andThen_ok]
        dsimp only
        rw [Sem.run_bind, run_und w hby, Result.andThen_ok]
      rcases cond_inv h6 with ⟨hn, h7⟩ | ⟨hn, h7⟩
      · have hn := Nat.eq_of_beq_eq_true hn
        subst hn
        obtain ⟨rfl, rfl⟩ := pure_inv h7
        refine Gives.of_run (a := .string ⟨#[]⟩) (w' := w) ?_ (Post.same hR (.string _))
        cases hx with
        | sliceNil => rw [hconv _ ⟨_, _, _, rfl⟩]; rfl
        | slice => rw [hconv _ ⟨_, _, _, rfl⟩]; rfl
        | sliceEmpty => rw [hconv _ ⟨_, _, _, rfl⟩]; rfl
        | sliceZero => rw [hconv _ ⟨_, _, _, rfl⟩]; rfl
      · cases base with
        | none => cases h7
        | some ad =>
          obtain ⟨y, off, sp⟩ := ad
          cases sp with
          | some q => cases h7
          | none =>
            dsimp only at h7
            obtain ⟨⟨c, ce⟩, s3, h8, h9⟩ := bind_inv h7
            obtain ⟨rfl, hmk, hg⟩ := rdCells_inv h8
            dsimp only at h9 hg
            obtain ⟨b, s4, h10, h11⟩ := bind_inv h9
            obtain ⟨htk, rfl⟩ := opt_inv h10
            obtain ⟨bs, s5, h12, h13⟩ := bind_inv h11
            obtain ⟨hbs, rfl⟩ := opt_inv h12
            obtain ⟨rfl, rfl⟩ := pure_inv h13
            obtain ⟨htl, rfl⟩ := take_some htk
            obtain ⟨l0, hl0, ho⟩ := hR.cells hg
            refine Gives.of_run (a := .string ⟨bs.toArray⟩) (w' := w) ?_ (Post.same hR (.string _))
            cases hx with
            | slice _ _ _ _ k' l hl hk hr =>
              have e0 : l0 = l := by rw [hl] at hl0; cases hl0; rfl
              subst e0
              obtain ⟨us', hv, hcell⟩ := ho.piece htl
              obtain ⟨e1, e2⟩ := bytes_run (P := P) (w := w) hbs hv
              have hlen : us'.length = n := by rw [← hv.1]; simp; omega
              have hload : (loadCells ⟨l0.blk, l0.off + off, none⟩ us'.length).run P w = .ok us'.toArray w :=
                run_loadCells_list (P := P) w ⟨l0.blk, l0.off + off, none⟩ us' (fun j v hv => by rw [Addr.add_mid]; exact hcell j v hv)
              rw [hlen] at hload
              rw [hconv _ ⟨_, _, _, rfl⟩]
              unfold Conv.bytesToString
              dsimp only
              rw [Sem.run_bind, hload, Result.andThen_ok]
              rw [Sem.run_bind]
              have := e2 ByteArray.empty
              rw [List.forIn_toArray]
              refine (congrArg (fun r => Result.andThen r fun a w' => Sem.run P (pure (Value.string a)) w') this).trans ?_
              simp
            | sliceEmpty => simp at hn
    · rename_i e e'
      obtain ⟨hb, h6⟩ := guard_inv hh
      simp only [Bool.or_eq_false_iff, Bool.not_eq_false', Bool.and_eq_true] at hb
      obtain ⟨hb, hn0⟩ := hb
      have had := Nat.eq_of_beq_eq_true hb.1
      have hby := isByte_inv hb.2
      subst had
      cases base with
      | none => cases h6
      | some ad =>
        obtain ⟨y, off, sp⟩ := ad
        cases sp with
        | some q => cases h6
        | none =>
          dsimp only at h6
          obtain ⟨⟨c, ce⟩, s3, h8, h9⟩ := bind_inv h6
          obtain ⟨rfl, hmk, hg⟩ := rdCells_inv h8
          obtain ⟨h10, h11⟩ := guard_inv h9
          obtain ⟨rfl, rfl⟩ := pure_inv h11
          have hy : 4096 ≤ y := by
            rw [ble_dec] at h10
            have := of_decide_eq_false h10
            omega
          obtain ⟨l0, hl0, ho⟩ := hR.cells hg
          have hconv : ∀ (aa : Addr) (n k : Nat), (convert a a (.slice (some aa) n k)).run P w = ((do markStringish aa; pure (.slice (some aa) n k) : Sem Value)).run P w := by
            intro aa n k
            unfold convert
            rw [Sem.run_bind, run_und w hus, Result.andThen_ok, Sem.run_bind, run_und w hud, Result.andThen_ok]
            dsimp only
            rw [Sem.run_bind, run_und w hby, Result.andThen_ok]
            simp
          cases hx with
          | slice _ _ _ _ k' l hl hk hr =>
            have e0 : l0 = l := by rw [hl] at hl0; cases hl0; rfl
            subst e0
            refine ⟨.slice (some ⟨l0.blk, l0.off + off, none⟩) n k', w.freeze ⟨l0.blk, l0.off + l0.room, none⟩ 1, ?_, μ, Ext.refl _ _ _, hR.mark hy hg hl, .slice y off n k k' l0 hl hk hr⟩
            rw [hconv, Sem.run_bind, run_mark ho.1]
            rfl
          | sliceEmpty => simp at hn0
    · cases hh
  · rename_i b hrx
    rw [hrx] at hx
    rw [VR.flat rfl hx]
    obtain ⟨us, s1, h1, h2⟩ := bind_inv hh
    obtain ⟨hus, rfl⟩ := opt_inv h1
    obtain ⟨ud, s2, h3, h5⟩ := bind_inv h2
    obtain ⟨hud, rfl⟩ := opt_inv h3
    clear hh
    obtain ⟨m, hm, hh⟩ := app h5
    clear h5
    split at hm <;> subst hm
    · rename_i e
      obtain ⟨hb, h6⟩ := guard_inv hh
      have hby := isByte_inv (show isByte P e = true by simpa using hb)
      obtain ⟨y, s3, h7, h8⟩ := bind_inv h6
      obtain ⟨rfl, rfl⟩ := nw_inv h7
      obtain ⟨rfl, rfl⟩ := pure_inv h8
      rename_i s0
      -- the capacity that is drawn
      have hcap : ∀ w : World, ∃ cap, b.size ≤ cap ∧ (choose (.appendCap b.size 0 e)).run P w = .ok cap { w with drawn := w.drawn + 1 } := by
        intro w
        refine ⟨_, ?_, by rw [run_choose, if_neg (by simp [Question.forced])]⟩
        simp [Question.cut]
      obtain ⟨cap, hcap1, hcap2⟩ := hcap w
      have hfl : (b.data.toList.map fun (b : UInt8) => Value.int .u8 b.toNat).all flat = true := by
        rw [List.all_eq_true]; intro v hv
        obtain ⟨x, _, rfl⟩ := List.mem_map.1 hv
        rfl
      have hlen : (b.data.toList.map fun (b : UInt8) => Value.int .u8 b.toNat).length = b.size := by rw [List.length_map, Array.length_toList]; rfl
      obtain ⟨μ', he, hr, hm⟩ := nw_ok (R := .cells ((b.data.toList.map fun (b : UInt8) => Value.int .u8 b.toNat) ++ List.replicate (cap - b.size) (Value.int .u8 0)).toArray e)
        (room := (b.data.toList.map fun (b : UInt8) => Value.int .u8 b.toNat).length + (List.replicate (cap - b.size) (Value.int .u8 0)).length) (o := .cells (b.data.toList.map fun (b : UInt8) => Value.int .u8 b.toNat) e)
        (hR.drawn (w.drawn + 1)) h4 (hf _ (Nat.le_refl _) (by dsimp only; omega)) (fun μ' hx => ObjR.newCells (VRs.refl_flat hfl) rfl)
      have hrow := (hr.obj _ _ (T.get_set_self _ _ _) (by simp))
      obtain ⟨l0, hl0, ho⟩ := hrow
      have hmk := hr.mark h4 (T.get_set_self _ _ _) hm
      have e0 := hm
      rw [hl0] at e0
      cases e0
      generalize hW : World.freeze _ _ _ = W' at hmk
      refine ⟨.slice (some ⟨w.heap.size, 0, none⟩) b.size cap, W', ?_, μ', he, hmk, ?_⟩
      · unfold convert
        rw [Sem.run_bind, run_und w hus, Result.andThen_ok, Sem.run_bind, run_und w hud, Result.andThen_ok]
        have hgo : ((do match ← underlying e with
            | .int .u8 => Conv.stringToBytes e b
            | .int .i32 => Conv.stringToRunes e b
            | _ => stuck "Convert: string to a slice of what?" : Sem Value)).run P w = .ok (.slice (some ⟨w.heap.size, 0, none⟩) b.size cap) W' := by
          rw [Sem.run_bind, run_und w hby, Result.andThen_ok]
          dsimp only
          unfold Conv.stringToBytes
          rw [Sem.run_bind, hcap2, Result.andThen_ok]
          have hrows : (b.data.map (fun (x : UInt8) => Value.int .u8 x.toNat) ++ Array.replicate (cap - b.size) (Value.int .u8 0)) = ((b.data.toList.map fun (b : UInt8) => Value.int .u8 b.toNat) ++ List.replicate (cap - b.size) (Value.int .u8 0)).toArray := by
            apply Array.toList_inj.1
            simp
          dsimp only
          rw [hrows]
          rw [show ∀ (f : Addr → Sem Value) (cs : Array Value) (w : World), ((newRow e cs) >>= f).run P w = (f ⟨w.heap.size, 0, none⟩).run P (w.alloc (.cells cs e)) from fun f cs w => rfl]
          have hro := ho.1
          rw [Sem.run_bind, run_mark hro, ← hW]
          rfl
        cases us <;> exact hgo
      · have := VR.slice (ω := ω) s2.next 0 b.size 1 cap _ hm hcap1 (by dsimp only; rw [hlen, List.length_replicate]; omega)
        simpa using this
    · obtain ⟨hv1, hv2, rfl⟩ := pureVal_inv hh
      exact pure_post hR (evalPure_run hv1 w) hv2
  · rename_i k n hrx
    rw [hrx] at hx
    rw [VR.flat rfl hx]
    obtain ⟨h1, h2, rfl⟩ := pureVal_inv hh
    exact pure_post hR (evalPure_run h1 w) h2
  · cases hh
end ops
end Go.Ev
