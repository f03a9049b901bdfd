/- PART EvO of a proof by an evaluator of the model that is proved sound. -/
import Derived.Test.YtfcjpkigaagnaaaGreatDoorEvR
set_option linter.unusedVariables false
set_option linter.unusedSimpArgs false
namespace Go.Ev
open Go Go.RowKit

section inv
variable {α β : Type} {s s' : St}
theorem bind_inv {m : E α} {f : α → E β} {b : β} (h : (m >>= f) s = some (b, s')) : ∃ a s1, m s = some (a, s1) ∧ f a s1 = some (b, s') := by
  have h' : (match m s with | none => none | some (a, s) => f a s) = some (b, s') := h
  cases hm : m s with
  | none => rw [hm] at h'; cases h'
  | some p => obtain ⟨a, s1⟩ := p; rw [hm] at h'; exact ⟨a, s1, rfl, h'⟩
theorem pure_inv {a b : α} (h : (pure a : E α) s = some (b, s')) : b = a ∧ s' = s := by
  have h' : some (a, s) = some (b, s') := h
  cases h'; exact ⟨rfl, rfl⟩
theorem opt_inv {o : Option α} {a : α} (h : opt o s = some (a, s')) : o = some a ∧ s' = s := by
  cases o with
  | none => cases h
  | some x => cases h; exact ⟨rfl, rfl⟩
theorem fail_inv {a : α} (h : (fail : E α) s = some (a, s')) : False := by cases h
theorem cond_inv {b : Bool} {x y : E α} {a : α} (h : (bif b then x else y) s = some (a, s')) : (b = true ∧ x s = some (a, s')) ∨ (b = false ∧ y s = some (a, s')) := by
  cases b
  · exact .inr ⟨rfl, h⟩
  · exact .inl ⟨rfl, h⟩
theorem guard_inv {b : Bool} {y : E α} {a : α} (h : (bif b then fail else y) s = some (a, s')) : b = false ∧ y s = some (a, s') := by
  cases b
  · exact ⟨rfl, h⟩
  · cases h
theorem guard_inv' {b : Bool} {y : E α} {a : α} (h : (bif b then y else fail) s = some (a, s')) : b = true ∧ y s = some (a, s') := by
  cases b
  · cases h
  · exact ⟨rfl, h⟩
theorem rdCells_inv {x : Nat} {p : List Value × TypeId} (h : rdCells x s = some (p, s')) : s' = s ∧ masked s.mask x = false ∧ s.heap.get x = some (.cells p.1 p.2) := by
  obtain ⟨o, s1, h1, h2⟩ := bind_inv h
  obtain ⟨rfl, hm, hg, _⟩ := rd_eq h1
  cases o <;> first | cases h2 | skip
  exact ⟨rfl, hm, hg⟩
theorem rdMap_inv {x : Nat} {p : List MapEntry × Nat} (h : rdMap x s = some (p, s')) : s' = s ∧ masked s.mask x = false ∧ s.heap.get x = some (.map p.1 p.2) := by
  obtain ⟨o, s1, h1, h2⟩ := bind_inv h
  obtain ⟨rfl, hm, hg, _⟩ := rd_eq h1
  cases o <;> first | cases h2 | skip
  exact ⟨rfl, hm, hg⟩
theorem place_inv {v : Value} {x off : Nat} (h : place v = some (x, off)) : v = .pointer (some ⟨x, off, none⟩) := by
  unfold place at h
  split at h
  · cases h; rfl
  · cases h
end inv

/-- A computation of the model's ends well, and with what. -/
def Gives {α : Type} (P : Program) (m : Sem α) (w : World) (R : α → World → Prop) : Prop := ∃ u w', m.run P w = .ok u w' ∧ R u w'
section
variable {α β : Type} {P : Program} {w : World}
theorem Gives.bind {m : Sem α} {f : α → Sem β} {R : β → World → Prop} (h : Gives P m w fun a w' => Gives P (f a) w' R) : Gives P (m >>= f) w R := by
  obtain ⟨a, w', h1, b, w'', h2, hR⟩ := h
  exact ⟨b, w'', by rw [Sem.run_bind, h1, Result.andThen_ok, h2], hR⟩
theorem Gives.pure {a : α} {R : α → World → Prop} (h : R a w) : Gives P (pure a : Sem α) w R := ⟨a, w, rfl, h⟩
theorem Gives.mono {m : Sem α} {R R' : α → World → Prop} (h : Gives P m w R) (hr : ∀ a w', R a w' → R' a w') : Gives P m w R' := let ⟨a, w', h1, h2⟩ := h; ⟨a, w', h1, hr _ _ h2⟩
theorem Gives.of_run {m : Sem α} {a : α} {w' : World} {R : α → World → Prop} (h : m.run P w = .ok a w') (hR : R a w') : Gives P m w R := ⟨a, w', h, hR⟩
end

/-- What the program alone tells. -/
theorem evalPure_run {α : Type} {P : Program} : ∀ {m : Sem α} {a : α}, evalPure P m = some a → ∀ w, m.run P w = .ok a w := by
  intro m
  induction m with
  | pure b => intro a h w; simp only [evalPure, Option.some.injEq] at h; subst h; rfl
  | program k ih => intro a h w; exact ih P (by simpa only [evalPure] using h) w
  | _ => intro a h; simp [evalPure] at h

section
variable {P : Program} {t : TypeId} (w : World)
theorem run_und {d : TypeDesc} (h : P.underlying t = some d) : (underlying t).run P w = .ok d w := run_underlying h w
theorem run_info {i : TypeInfo} (h : P.info? t = some i) : (typeInfo t).run P w = .ok i w := by simp [typeInfo, h]
theorem run_size {z : Nat} (h : size? P t = some z) : (sizeOf t).run P w = .ok z w := by
  unfold size? at h
  cases hi : P.info? t with
  | none => rw [hi] at h; cases h
  | some i => rw [hi] at h; simp at h; simp [sizeOf, typeInfo, hi, h]
theorem run_zero {v : Value} (h : zero? P t = some v) : (zeroValue t).run P w = .ok v w := by
  unfold zero? at h
  cases hi : P.info? t with
  | none => rw [hi] at h; cases h
  | some i =>
    rw [hi] at h
    have hz : i.zero = some v := h
    simp [zeroValue, typeInfo, hi, hz]
theorem run_isAgg {b : Bool} (h : isAgg? P t = some b) : (isAgg t).run P w = .ok b w := by
  unfold isAgg? at h
  cases hu : P.underlying t with
  | none => rw [hu] at h; cases h
  | some d =>
    rw [hu] at h
    unfold isAgg
    rw [Sem.run_bind, run_underlying hu w]
    cases d <;> simp_all
end

section ops
variable {P : Program} {ω : Nat → Value} {B : Nat} {W0 : World} {μ : Mp} {w : World} {s s' : St} {call : FuncId → List Value → E Value} {ρ ρ' : Operand → Value}

/-- What an operation leaves: a value, a world, places of the new objects. -/
def Post (ω : Nat → Value) (B : Nat) (W0 : World) (μ : Mp) (s s' : St) (v : Value) (u : Value) (w' : World) : Prop :=
  ∃ μ', Ext μ μ' s.next s'.next ∧ Rel ω B W0 μ' s'.heap w' ∧ VR ω μ' v u
theorem Post.same (hR : Rel ω B W0 μ s.heap w) {v u : Value} (h : VR ω μ v u) : Post ω B W0 μ s s v u w := ⟨μ, Ext.refl _ _ _, hR, h⟩

theorem Rel.cells (hR : Rel ω B W0 μ s.heap w) {x : Nat} {c : List Value} {e : TypeId} (hx : s.heap.get x = some (.cells c e)) : ∃ l, μ x = some l ∧ ObjR ω μ w l (.cells c e) := hR.obj x _ hx (by simp)
theorem take_some {c l : List Value} {off n : Nat} (h : take? c off n = some l) : off + n ≤ c.length ∧ l = (c.drop off).take n := by
  unfold take? at h
  cases hb : Nat.ble (off + n) c.length with
  | false => rw [hb] at h; cases h
  | true => rw [hb] at h; cases h; exact ⟨Nat.le_of_ble_eq_true hb, rfl⟩
theorem put_some {c x l : List Value} {off : Nat} (h : put? c off x = some l) : off + x.length ≤ c.length ∧ l = c.take off ++ x ++ c.drop (off + x.length) := by
  unfold put? at h
  cases hb : Nat.ble (off + x.length) c.length with
  | false => rw [hb] at h; cases h
  | true => rw [hb] at h; cases h; exact ⟨Nat.le_of_ble_eq_true hb, rfl⟩
/-- The cells of a piece of an object. -/
theorem ObjR.piece {l : Loc} {c : List Value} {e : TypeId} (h : ObjR ω μ w l (.cells c e)) {off n : Nat} (hn : off + n ≤ c.length) :
    ∃ us : List Value, VRs ω μ ((c.drop off).take n) us ∧ ∀ j v, us[j]? = some v → w.cell? ⟨l.blk, l.off + off + j, none⟩ = some v := by
  induction n generalizing off with
  | zero => exact ⟨[], by simpa using VRs.nil, fun j v hv => by simp at hv⟩
  | succ n ih =>
    obtain ⟨us, h1, h2⟩ := ih (off := off + 1) (by omega)
    have ho : off < c.length := by omega
    obtain ⟨u, hu, hr⟩ := h.2.2 off c[off] (List.getElem?_eq_getElem ho)
    refine ⟨u :: us, ?_, ?_⟩
    · rw [List.drop_eq_getElem_cons ho, List.take_succ_cons]
      exact VRs.cons hr h1
    · intro j v hv
      cases j with
      | zero => simp at hv; subst hv; exact hu
      | succ j =>
        simp at hv
        have := h2 j v hv
        rw [show l.off + (off + 1) + j = l.off + off + (j + 1) by omega] at this
        exact this

theorem doLoad_ok {t : TypeId} {a a' v : Value} (h : doLoad P t a s = some (v, s')) (ha : VR ω μ a a') (hR : Rel ω B W0 μ s.heap w) :
    s' = s ∧ Gives P (Instr.loadAt t a') w fun u w' => w' = w ∧ VR ω μ v u := by
  unfold doLoad at h
  obtain ⟨⟨x, off⟩, s1, h1, h2⟩ := bind_inv h
  obtain ⟨hp, rfl⟩ := opt_inv h1
  obtain ⟨⟨c, e⟩, s2, h3, h4⟩ := bind_inv h2
  obtain ⟨rfl, hm, hg⟩ := rdCells_inv h3
  dsimp only at h4 hg
  rw [place_inv hp] at ha
  cases ha with
  | ptr _ _ l hl =>
    obtain ⟨l', hl', ho⟩ := hR.cells hg
    rw [hl] at hl'; cases hl'
    cases hag : isAgg? P t with
    | none => rw [hag] at h4; cases h4
    | some b =>
      rw [hag] at h4
      dsimp only at h4
      cases b with
      | true =>
        dsimp only at h4
        obtain ⟨cs, s3, h5', h6⟩ := bind_inv h4
        obtain ⟨h5, rfl⟩ := opt_inv h5'
        clear h5' 
        obtain ⟨rfl, rfl⟩ := pure_inv h6
        cases hz : size? P t with
        | none => rw [hz] at h5; cases h5
        | some z =>
          rw [hz] at h5
          obtain ⟨hn, rfl⟩ := take_some (show take? c off z = some cs from h5)
          obtain ⟨us, hus, hcell⟩ := ho.piece hn
          refine ⟨rfl, ?_⟩
          have hlen : us.length = z := by rw [← hus.1]; simp; omega
          have hrun : (loadCells ⟨l.blk, l.off + off, none⟩ us.length).run P w = .ok us.toArray w :=
            run_loadCells_list (P := P) w ⟨l.blk, l.off + off, none⟩ us (fun j v hv => by rw [Addr.add_mid]; exact hcell j v hv)
          rw [hlen] at hrun
          refine Gives.of_run (a := .agg us.toArray) (w' := w) ?_ ⟨rfl, VR.agg_of hus⟩
          simp [Instr.loadAt, Instr.sureAddr, loadVar, run_isAgg w hag, run_size w hz, hrun]
      | false =>
        dsimp only at h4
        obtain ⟨h5, rfl⟩ := opt_inv h4
        obtain ⟨u, hu, hr⟩ := ho.2.2 off v h5
        refine ⟨rfl, Gives.of_run (a := u) (w' := w) ?_ ⟨rfl, hr⟩⟩
        simp [Instr.loadAt, Instr.sureAddr, loadVar, run_isAgg w hag, hu]

theorem shape_setCell (w : World) (a : Addr) (v : Value) (b : Nat) : (w.setCell a v).shape? b = w.shape? b := by
  by_cases hb : a.block = b
  · subst hb
    simp only [World.setCell, World.shape?, Array.getElem?_modify, if_true]
    cases w.heap[a.block]? with
    | none => rfl
    | some o =>
      cases o <;> simp only [Option.map_some]
      split <;> simp
  · simp only [World.setCell, World.shape?, Array.getElem?_modify, if_neg hb]
theorem shape_setCells (b : Nat) : ∀ (vs : List Value) (o : Nat) (w : World) (k : Nat), (w.setCells b o vs).shape? k = w.shape? k
  | [], _, _, _ => rfl
  | v :: r, o, w, k => by rw [World.setCells, shape_setCells b r, shape_setCell]
theorem heap_setCells (b : Nat) : ∀ (vs : List Value) (o : Nat) (w : World) (k : Nat), k ≠ b → (w.setCells b o vs).heap[k]? = w.heap[k]?
  | [], _, _, _, _ => rfl
  | v :: r, o, w, k, h => by rw [World.setCells, heap_setCells b r _ _ _ h, Below.heap_setCell _ _ _ _ (by simpa using h)]
theorem size_setCells (b : Nat) : ∀ (vs : List Value) (o : Nat) (w : World), (w.setCells b o vs).heap.size = w.heap.size
  | [], _, _ => rfl
  | v :: r, o, w => by rw [World.setCells, size_setCells b r]; simp [World.setCell]
theorem tape_setCells (b : Nat) : ∀ (vs : List Value) (o : Nat) (w : World), (w.setCells b o vs).tape = w.tape
  | [], _, _ => rfl
  | v :: r, o, w => by rw [World.setCells, tape_setCells b r]; rfl
/-- Cells written into an object. -/
theorem ObjR.write {l : Loc} {c x us : List Value} {e : TypeId} (h : ObjR ω μ w l (.cells c e)) {off : Nat} (hn : off + x.length ≤ c.length) (hx : VRs ω μ x us) :
    ObjR ω μ (w.setCells l.blk (l.off + off) us) l (.cells (c.take off ++ x ++ c.drop (off + x.length)) e) := by
  have hroom := h.2.1
  have hsome : ∀ j, j < us.length → (w.cell? ⟨l.blk, l.off + off + j, none⟩).isSome = true := fun j hj => h.1.some (by have := hx.1; omega)
  refine ⟨?_, ?_, ?_⟩
  · exact h.1.setCells _ _ _
  · simp; omega
  · intro i v hv
    by_cases h1 : off ≤ i ∧ i < off + x.length
    · have hxi : x[i - off]? = some v := by
        rw [List.append_assoc, List.getElem?_append_right (by simp; omega), List.getElem?_append_left (by simp; omega)] at hv
        rw [← hv]; congr 1; simp; omega
      obtain ⟨u, hu, hr⟩ := hx.get hxi
      refine ⟨u, ?_, hr⟩
      have hj : i - off < us.length := (List.getElem?_eq_some_iff.1 hu).1
      have := World.cell?_setCells_in l.blk us (l.off + off) w hsome (i - off) hj
      rw [show l.off + off + (i - off) = l.off + i by omega] at this
      rw [this, ← hu, List.getElem?_eq_getElem hj]
    · have hci : c[i]? = some v := by
        by_cases h2 : i < off
        · rw [List.append_assoc, List.getElem?_append_left (by simp; omega), List.getElem?_take, if_pos h2] at hv; exact hv
        · rw [List.getElem?_append_right (by simp; omega), List.getElem?_drop] at hv
          rw [← hv]; congr 1; simp; omega
      obtain ⟨u, hu, hr⟩ := h.2.2 i v hci
      refine ⟨u, ?_, hr⟩
      rw [World.cell?_setCells_out l.blk us (l.off + off) w ⟨l.blk, l.off + i, none⟩ (fun _ _ => by have := hx.1; dsimp only; omega)]
      exact hu
theorem run_storeCells {l : Loc} {c us : List Value} {e : TypeId} (h : ObjR ω μ w l (.cells c e)) {off : Nat} (hn : off + us.length ≤ c.length) (h1 : ∀ v ∈ us, v.oneCell' = true) :
    (storeCells ⟨l.blk, l.off + off, none⟩ us).run P w = .ok () (w.setCells l.blk (l.off + off) us) := by
  have hroom := h.2.1
  have := run_storeCells_cells (P := P) l.blk (l.off + off) us 0 w (fun j hj => h.1.some (by omega)) (fun j hj => h.1.free (by omega)) h1
  simpa using this
theorem Rel.write (hR : Rel ω B W0 μ s.heap w) {x : Nat} {c new us : List Value} {e : TypeId} {l : Loc} (h4 : 4096 ≤ x) (hx : s.heap.get x = some (.cells c e)) (hl : μ x = some l) {off : Nat}
    (hn : off + new.length ≤ c.length) (hs : VRs ω μ new us) : Rel ω B W0 μ (s.heap.set x (.cells (c.take off ++ new ++ c.drop (off + new.length)) e)) (w.setCells l.blk (l.off + off) us) := by
  obtain ⟨l', hl', ho⟩ := hR.cells hx
  rw [hl] at hl'; cases hl'
  exact hR.turn h4 hx (by simp) hl (World.os_setCells _ _ _ _) (tape_setCells _ _ _ _) (World.output_setCells _ _ _ _) (by rw [size_setCells]; exact Nat.le_refl _)
    (fun b _ hb => heap_setCells _ _ _ _ _ hb) (fun _ => ho.write hn hs)
theorem ones {us : List Value} {x : List Value} (hω : ∀ k, (ω k).oneCell' = true) (hs : VRs ω μ x us) (h1 : x.all one = true) : ∀ v ∈ us, v.oneCell' = true := by
  intro v hv
  obtain ⟨i, hi⟩ := List.getElem?_of_mem hv
  have hlt : i < x.length := by rw [hs.1]; exact (List.getElem?_eq_some_iff.1 hi).1
  exact (hs.2 i _ v (List.getElem?_eq_getElem hlt) hi).one hω (List.all_eq_true.1 h1 _ (List.getElem_mem hlt))

theorem doStore_ok {t : TypeId} {a a' v v' u : Value} (hω : ∀ k, (ω k).oneCell' = true) (h : doStore P t a v s = some (u, s')) (ha : VR ω μ a a') (hv : VR ω μ v v') (hR : Rel ω B W0 μ s.heap w) :
    s'.next = s.next ∧ u = undef ∧ Gives P (Instr.storeAt t a' v') w fun _ w' => Rel ω B W0 μ s'.heap w' := by
  unfold doStore at h
  obtain ⟨⟨x, off⟩, s1, h1, h2⟩ := bind_inv h
  obtain ⟨hp, rfl⟩ := opt_inv h1
  obtain ⟨⟨c, e⟩, s2, h3, h4⟩ := bind_inv h2
  obtain ⟨rfl, hm, hg⟩ := rdCells_inv h3
  dsimp only at h4 hg
  cases hz : size? P t with
  | none => rw [hz] at h4; cases h4
  | some z =>
    rw [hz] at h4
    dsimp only at h4
    obtain ⟨hb, h5⟩ := guard_inv' h4
    simp only [Bool.and_eq_true] at hb
    obtain ⟨hb1, hb2⟩ := hb
    have hvz : v.cells.size = z := Nat.eq_of_beq_eq_true hb1
    obtain ⟨c', s3, h6, h7⟩ := bind_inv h5
    obtain ⟨h6', rfl⟩ := opt_inv h6
    clear h6
    obtain ⟨_, s4, h8, h9⟩ := bind_inv h7
    obtain ⟨rfl, h4096, hm', _⟩ := wr_eq h8
    obtain ⟨rfl, rfl⟩ := pure_inv h9
    obtain ⟨hn, rfl⟩ := put_some h6'
    rw [place_inv hp] at ha
    cases ha with
    | ptr _ _ l hl =>
      have hj : v ≠ .chan none := by
        rintro rfl
        simp [Value.cells, one] at hb2
      have hs := hv.cells hω hj
      obtain ⟨l', hl', ho⟩ := hR.cells hg
      rw [hl] at hl'; cases hl'
      have hlen : v'.cells.toList.length = v.cells.toList.length := hs.1.symm
      have hrun := run_storeCells (P := P) ho (off := off) (us := v'.cells.toList) (by rw [hlen]; exact hn) (ones hω hs hb2)
      refine ⟨rfl, rfl, Gives.of_run (a := ()) (w' := w.setCells l.blk (l.off + off) v'.cells.toList) ?_ (hR.write h4096 hg hl hn hs)⟩
      have hz' : v'.cells.size = z := by simpa [hvz] using hlen
      simp [Instr.storeAt, Instr.sureAddr, storeVar, run_size w hz, hz', hrun]
end ops
end Go.Ev
