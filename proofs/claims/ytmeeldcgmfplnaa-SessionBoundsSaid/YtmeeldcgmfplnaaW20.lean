/-
  Contract: slices.Delete of one flight, in place.
-/
import Derived.Test.YtmeeldcgmfplnaaW15
import Derived.Deep.RegionLaw
import Derived.Laws.CopyOwn
set_option linter.unusedVariables false
set_option linter.unusedSimpArgs false
namespace Go.Proofs.Ytmeeldcgmfplnaa
open Go.RowKit
attribute [local go_sem] setRow_setCell_same setRow_setCell_other setRow_cell_same setRow_cell_other setRow_frozen setRow_shape
attribute [local go_sem ↓] Go.wp_at_zero Go.wp_at_succ

theorem splice_cons {α : Type} (L : List α) (o : Nat) (v : α) (r : List α) (h : o < L.length) : splice (L.set o v) (o + 1) r = splice L o (v :: r) := by
  unfold splice
  have e1 : (L.set o v).take (o + 1) = L.take o ++ [v] := by
    rw [List.take_succ_eq_append_getElem (by simpa using h)]
    simp [List.take_set_of_le]
  have e2 : (L.set o v).drop (o + 1 + r.length) = L.drop (o + 1 + r.length) := by
    rw [List.drop_set_of_lt (by omega)]
  rw [e1, e2]
  simp [Nat.add_assoc, Nat.add_comm 1]

/-- Cells set one by one in a block that is known whole. -/
theorem Blk.setCells {g : Nat} {t : TypeId} : ∀ (vs : List Value) (o : Nat) (cs : Array Value) (w : World), Blk w g t cs → o + vs.length ≤ cs.size → ∃ cs', Blk (w.setCells g o vs) g t cs' ∧ cs'.toList = splice cs.toList o vs
  | [], o, cs, w, h, hl => ⟨cs, h, by simp [splice]⟩
  | v :: r, o, cs, w, h, hl => by
    rw [List.length_cons] at hl
    obtain ⟨cs', h1, h2⟩ := Blk.setCells r (o + 1) _ _ (h.set o v) (by simp; omega)
    refine ⟨cs', h1, ?_⟩
    rw [h2, Array.toList_setIfInBounds, splice_cons _ _ _ _ (by simp; omega)]
theorem size_setCells' (g : Nat) : ∀ (vs : List Value) (o : Nat) (w : World), (w.setCells g o vs).heap.size = w.heap.size
  | [], o, w => rfl
  | v :: r, o, w => by
    rw [World.setCells, size_setCells' g r]
    simp [World.setCell]
theorem grown_setCells (g : Nat) : ∀ (vs : List Value) (o : Nat) (w : World), w.grownBy (w.setCells g o vs) (some g)
  | [], o, w => World.grownBy.refl w _
  | v :: r, o, w => by
    have h := grown_setCells g r (o + 1) (w.setCell ⟨g, o, none⟩ v)
    refine ⟨h.os, h.tape, h.output, by rw [size_setCells']; exact Nat.le_refl _, fun k hk hne => ?_⟩
    exact (h.block k (by simp [World.setCell]; omega) hne).trans (Below.heap_setCell w ⟨g, o, none⟩ v k (fun e => hne (by rw [e])))

theorem run_clear_row {P : Program} (w : World) (t e ty : TypeId) (z : Value) (ht : P.underlying t = some (.slice e)) (hv : ∀ w, (zeroValue e).run P w = .ok z w) (b o n c : Nat) (hn : 0 < n)
    (h1 : ∀ u ∈ (Builtin.zeroCells z.cells n).toList, u.oneCell' = true) (hc : ∀ j, j < (Builtin.zeroCells z.cells n).toList.length → (w.cell? ⟨b, o + j, none⟩).isSome = true) (hf : ∀ j, j < (Builtin.zeroCells z.cells n).toList.length → w.frozen? ⟨b, o + j, none⟩ = false) :
    (Builtin.clear_ #[t] ty #[.slice (some ⟨b, o, none⟩) n c]).run P w = .ok (.tuple #[]) (w.setCells b o (Builtin.zeroCells z.cells n).toList) := by
  have hst := run_storeCells_cells (P := P) b o (Builtin.zeroCells z.cells n).toList 0 w (by simpa using hc) (by simpa using hf) h1
  simp only [Nat.add_zero] at hst
  obtain ⟨m, rfl⟩ : ∃ m, n = m + 1 := ⟨n - 1, by omega⟩
  simp [Builtin.clear_, run_underlying ht, hv, hst]
theorem wpList_clear {P : Program} {ops : Array Oper} {rest : List Oper} {o : Oper} {a : Act} {Q : Exit → Act → World → Prop} {w w2 : World} (hgd : o.guard = none) (x : Operand) (t : TypeId) (ho : o.op = .call { callee := .builtin .clear, args := #[x], argTypes := #[t] })
    (v : Value) (hx : a.eval x = v) (hrun : (Builtin.clear_ #[t] o.type #[v]).run P w = .ok (.tuple #[]) w2) (h : wpList P ops Q rest (a.put o.dst (.tuple #[])) w2) : wpList P ops Q (o :: rest) a w :=
  wpList_plain hgd fun K hK => by
    unfold Oper.wp execOp
    simp only [ho, resolve, invoke, builtin, Sem.run_bind, Sem.run_pure, Result.andThen_ok, List.map_toArray, List.map_cons, List.map_nil, hx, hrun]
    exact hK _ _ h

/-- What Delete leaves of a row of the call's own. -/
def Post59 (xs : List Flt) (A : Option Addr) (c i lo : Nat) (ok : Nat → Prop) (w : World) (e : Ending) (w' : World) : Prop :=
  e = .returned (.slice A (xs.eraseIdx i).length c) ∧ Own 50 kFlt ok lo w' (.slice A (xs.eraseIdx i).length c) (xs.eraseIdx i) ∧ w.grownBy w' (Value.slice A xs.length c).ownBlock

theorem zc50 : (Builtin.zeroCells zeroFlt.cells 1).toList = zeroFlt.cells.toList := by kernel_rfl
theorem zero50 (w : World) : (zeroValue 50).run Try.prog w = .ok zeroFlt w := by kernel_rfl

/-- The row behind the move and the clearing. -/
theorem del_row {xs : List Flt} {cs : List Value} {cur c1 c2 : Array Value} {n i c : Nat} {zs : List Value} (hn : xs.length = n) (hi : i < n) (hl : cs.length = n * 8) (hpre : cur.toList.take (n * 8) = cs) (hsz : cur.size = c * 8) (hnc : n ≤ c) (hz : zs.length = 8)
    (h1 : c1.toList = splice cur.toList (i * 8) (cs.drop ((i + 1) * 8))) (h2 : c2.toList = splice c1.toList ((n - 1) * 8) zs) : c2.size = c * 8 ∧ c2.toList.take ((n - 1) * 8) = cs.take (i * 8) ++ cs.drop ((i + 1) * 8) := by
  have hsz' : cur.toList.length = c * 8 := by simpa using hsz
  have hd : (cs.drop ((i + 1) * 8)).length = (n - 1 - i) * 8 := by rw [List.length_drop, hl]; omega
  have l1 : c1.toList.length = c * 8 := by rw [h1, length_splice _ _ _ (by rw [hd]; omega)]; exact hsz'
  refine ⟨by rw [← Array.length_toList, h2, length_splice _ _ _ (by omega)]; exact l1, ?_⟩
  rw [h2]
  unfold splice
  rw [List.take_append_of_le_length (by rw [List.length_take]; omega), List.take_take, Nat.min_self, h1]
  unfold splice
  have e1 : cur.toList.take (i * 8) = cs.take (i * 8) := by rw [← hpre, List.take_take, Nat.min_eq_left (by omega)]
  rw [e1, ← List.append_assoc, List.take_append_of_le_length (by rw [List.length_append, List.length_take, hd]; omega)]
  exact List.take_of_length_le (by rw [List.length_append, List.length_take, hd]; omega)

set_option maxRecDepth 100000 in
set_option maxHeartbeats 1000000 in
theorem delete_any (xs : List Flt) (A : Option Addr) (c i lo : Nat) (ok : Nat → Prop) (w : World) (h : Own 50 kFlt ok lo w (.slice A xs.length c) xs) (hi : i < xs.length) :
    Calls Try.prog 59 #[.slice A xs.length c, .int .i64 i, .int .i64 ((i : Int) + 1)] w (Post59 xs A c i lo ok w) := by
  obtain ⟨h0, cs, ⟨hl, ho⟩, hr⟩ := h
  rcases ho with ⟨_, hn0⟩ | ⟨g, cap, cur, hv, hg, hh, hnc, hcm, hsz, hpre⟩
  · omega
  injection hv with hA _ hcap
  subst hA hcap
  have hB : Blk w g 50 cur := hh
  replace hl : cs.length = xs.length * 8 := hl
  replace hpre : cur.toList.take (xs.length * 8) = cs := hpre
  replace hsz : cur.size = c * 8 := hsz
  have hlen : (xs.eraseIdx i).length = xs.length - 1 := by rw [List.length_eraseIdx_of_lt hi]
  have hE : Aside (xs.eraseIdx i = xs.take i ++ xs.drop (i + 1)) := ⟨List.eraseIdx_eq_take_drop_succ xs i⟩
  have hR1 : Reps (kFlt.K (fun b => ok b ∧ some b ≠ (Value.slice (some ⟨g, 0, none⟩) xs.length c).ownBlock) w) 8 (xs.eraseIdx i) (cs.take (i * 8) ++ cs.drop ((i + 1) * 8)) := by
    rw [hE.out]; exact (hr.take i).append (hr.drop (i + 1))
  have hone : ∀ u ∈ cs, u.oneCell' = true := Kn.C_one hr
  obtain ⟨m, hm⟩ : ∃ m, xs.length = i + 1 + m := ⟨xs.length - (i + 1), by omega⟩
  have hdl : (cs.drop ((i + 1) * 8)).length = m * 8 := by rw [List.length_drop, hl, hm]; omega
  have hcell : ∀ j, j < xs.length * 8 → w.cell? ⟨g, j, none⟩ = cs[j]? := fun j hj => by rw [hB.cells, ← hpre, List.getElem?_take_of_lt hj]; simp
  have hin : ∀ j, j < c * 8 → (w.cell? ⟨g, j, none⟩).isSome = true := fun j hj => by rw [hB.cells, Array.getElem?_eq_getElem (by omega)]; rfl
  obtain ⟨i0, hi0, hz0, hz1, hz2⟩ := info_parts info50
  obtain ⟨c1, hb1, he1⟩ := Blk.setCells (cs.drop ((i + 1) * 8)) (i * 8) cur _ hB.drew (by rw [hdl]; omega)
  obtain ⟨c2, hb2, he2⟩ := Blk.setCells (Builtin.zeroCells zeroFlt.cells 1).toList ((xs.length - 1) * 8) c1 _ hb1 (by
    have l1 : c1.toList.length = c * 8 := by rw [he1, length_splice _ _ _ (by rw [hdl, Array.length_toList]; omega)]; simpa using hsz
    have l2 : (Builtin.zeroCells zeroFlt.cells 1).toList.length = 8 := by rw [zc50]; rfl
    rw [l2]; simp at l1; omega)
  have hrow := del_row rfl hi hl hpre hsz hnc (by rw [zc50]; rfl) he1 he2
  -- the room for the move
  have s1 : Aside ((cs.drop ((i + 1) * 8)).length = (xs.length - (i + 1)) * 8) := ⟨by rw [hdl, hm]; congr 1; omega⟩
  have s2 : Aside (∀ u ∈ cs.drop ((i + 1) * 8), u.oneCell' = true) := ⟨fun u hu => hone u (List.mem_of_mem_drop hu)⟩
  have s3 : Aside (∀ j, j < (cs.drop ((i + 1) * 8)).length → (w.drew.cell? ⟨g, 0 + i * 8 + j, none⟩).isSome = true ∧ w.drew.frozen? ⟨g, 0 + i * 8 + j, none⟩ = false) := ⟨fun j hj => by
    rw [hdl] at hj
    exact ⟨hin _ (by omega), hB.free _⟩⟩
  have s4 : ∀ ad : Addr, (ad = ⟨g, (i + 1) * 8, none⟩ ∨ xs.length = i + 1) → ∀ j u, (cs.drop ((i + 1) * 8))[j]? = some u → w.drew.cell? (ad.add j) = some u := by
    intro ad had j u hu
    have hj : j < (cs.drop ((i + 1) * 8)).length := (List.getElem?_eq_some_iff.1 hu).1
    rw [hdl] at hj
    rcases had with rfl | he
    · rw [List.getElem?_drop] at hu
      have e : (⟨g, (i + 1) * 8, none⟩ : Addr).add j = ⟨g, (i + 1) * 8 + j, none⟩ := by unfold Addr.add; split <;> simp_all
      rw [e]
      exact (hcell _ (by omega)).trans hu
    · omega
  have S4 := Aside.mk s4
  have hcl : Aside ((Builtin.clear_ #[24] 0 #[.slice (some ⟨g, (xs.length - 1) * 8, none⟩) 1 (c - (xs.length - 1))]).run Try.prog (w.drew.setCells g (i * 8) (cs.drop ((i + 1) * 8))) = .ok (.tuple #[]) ((w.drew.setCells g (i * 8) (cs.drop ((i + 1) * 8))).setCells g ((xs.length - 1) * 8) (Builtin.zeroCells zeroFlt.cells 1).toList)) := ⟨by
    refine run_clear_row _ 24 50 0 zeroFlt Try.underlying24 zero50 g _ 1 _ (by decide) (by rw [zc50]; decide) (fun j hj => ?_) (fun j hj => hb1.free _)
    have l1 : c1.toList.length = c * 8 := by rw [he1, length_splice _ _ _ (by rw [hdl, Array.length_toList]; omega)]; simpa using hsz
    have l2 : (Builtin.zeroCells zeroFlt.cells 1).toList.length = 8 := by rw [zc50]; rfl
    rw [l2] at hj
    rw [hb1.cells, Array.getElem?_eq_getElem (by simp at l1; omega)]; rfl⟩
  have HEND : Aside (Post59 xs (some ⟨g, 0, none⟩) c i lo ok w (.returned (.slice (some ⟨g, 0, none⟩) (xs.length - 1) c)) ((w.drew.setCells g (i * 8) (cs.drop ((i + 1) * 8))).setCells g ((xs.length - 1) * 8) (Builtin.zeroCells zeroFlt.cells 1).toList)) := ⟨by
    have hgr : w.grownBy ((w.drew.setCells g (i * 8) (cs.drop ((i + 1) * 8))).setCells g ((xs.length - 1) * 8) (Builtin.zeroCells zeroFlt.cells 1).toList) (some g) := by
      have k1 := grown_setCells g (cs.drop ((i + 1) * 8)) (i * 8) w.drew
      have k2 := grown_setCells g (Builtin.zeroCells zeroFlt.cells 1).toList ((xs.length - 1) * 8) (w.drew.setCells g (i * 8) (cs.drop ((i + 1) * 8)))
      exact ⟨k2.os.trans k1.os, k2.tape.trans k1.tape, k2.output.trans k1.output, Nat.le_trans k1.size k2.size, fun k hk hne => (k2.block k (Nat.lt_of_lt_of_le hk k1.size) hne).trans (k1.block k hk hne)⟩
    refine ⟨by rw [hlen], ?_, hgr⟩
    rw [hlen]
    refine ⟨h0, cs.take (i * 8) ++ cs.drop ((i + 1) * 8), ⟨by rw [hlen, List.length_append, hdl, show (cs.take (i * 8)).length = i * 8 by rw [List.length_take, hl]; omega, show kFlt.sz = 8 from rfl]; omega, .inr ⟨g, c, c2, by rw [hlen], hg, hb2, by omega, hcm, hrow.1, by rw [hlen]; exact hrow.2⟩⟩, ?_⟩
    exact hR1.imp fun x cc hx => kFlt.move (fun b hb hlt => hgr.block b hlt hb.2) hx⟩
  have hil : (i : Int) + 1 ≤ (xs.length : Int) := by omega
  have hi1 : (0 : Int) ≤ (i : Int) := by omega
  have hi2 : (0 : Int) ≤ (i : Int) + 1 := by omega
  have hi3 : (i : Int) ≤ (i : Int) + 1 := by omega
  have hnc' : (xs.length : Int) ≤ (c : Int) := by omega
  have hic : i ≤ c := by omega
  have hne : ((i : Int) == (i : Int) + 1) = false := by rw [beq_eq_false_iff_ne]; omega
  have htn : ((i : Int) + 1).toNat = i + 1 := by omega
  have hmx : xs.length ≤ 9223372036854775807 := by have := hcm; unfold maxLen at this; omega
  have hcx : c ≤ 9223372036854775807 := by have := hcm; unfold maxLen at this; omega
  clear hl hr hh hpre hsz hB hlen hR1 hone hdl hcell hin hb1 he1 hb2 he2 hrow s4 h0 hm
  have hln := Aside.mk (show i + (xs.length - (i + 1)) = xs.length - 1 by omega)
  by_cases hc1 : c = i + 1
  · subst hc1
    have hn1 : xs.length = i + 1 := by omega
    have hnews := Aside.mk (S4.out ⟨g, 0, none⟩ (.inr hn1))
    have HN1 := Aside.mk hn1
    clear hn1
    go_enter Try.func59, Try.ntmps59
    go_upto_region 5 with fail
    go_region_law (refine step_append_room (by rfl) (.tmp 22) (.tmp 25) 24 (by rfl) 50 i0 8 Try.underlying24 hi0 hz1 g 0 i (i + 1) (by first | (simp [Act.eval, Act.put]; done) | (simp [Act.eval, Act.put]; omega)) ⟨g, 0, none⟩ (xs.length - (i + 1)) (i + 1 - (i + 1)) (cs.drop ((i + 1) * 8)) (by first | (simp [Act.eval, Act.put]; done) | (simp [Act.eval, Act.put]; omega)) s1.out hnews.out s2.out (by omega) s3.out ?_)
    try simp only [hln.out]
    have q1 : (0 : Int) ≤ ((xs.length - 1 : Nat) : Int) := by omega
    have q2 : ((xs.length - 1 : Nat) : Int) ≤ (xs.length : Int) := by omega
    have q3 : xs.length - (xs.length - 1) = 1 := by omega
    have q4 : ¬ i + 1 = xs.length - 1 := by omega
    go_wp2_with fail
    have hd := hcl.out
    have he := HEND.out
    have e1 : xs.length - 1 = i := by have := HN1.out; omega
    have e2 : xs.length - i = 1 := by have := HN1.out; omega
    rw [e1, show i + 1 - i = 1 by omega] at hd
    rw [e1] at he
    rw [e2, hd]
    have HE := Aside.mk he
    clear hd he e1 e2
    go_wp2_with fail
    go_ret
    exact HE.out
  · have hnews := Aside.mk (S4.out ⟨g, (i + 1) * 8, none⟩ (.inl rfl))
    go_enter Try.func59, Try.ntmps59
    go_upto_region 5 with fail
    go_region_law (refine step_append_room (by rfl) (.tmp 22) (.tmp 25) 24 (by rfl) 50 i0 8 Try.underlying24 hi0 hz1 g 0 i c (by first | (simp [Act.eval, Act.put]; done) | (simp [Act.eval, Act.put]; omega)) ⟨g, (i + 1) * 8, none⟩ (xs.length - (i + 1)) (c - (i + 1)) (cs.drop ((i + 1) * 8)) (by first | (simp [Act.eval, Act.put]; done) | (simp [Act.eval, Act.put]; omega)) s1.out hnews.out s2.out (by omega) s3.out ?_)
    try simp only [hln.out]
    have q1 : (0 : Int) ≤ ((xs.length - 1 : Nat) : Int) := by omega
    have q2 : ((xs.length - 1 : Nat) : Int) ≤ (xs.length : Int) := by omega
    have q3 : xs.length - (xs.length - 1) = 1 := by omega
    have q4 : ¬ c = xs.length - 1 := by omega
    go_wp2_with fail
    rw [hcl.out]
    go_wp2_with fail
    go_ret
    exact HEND.out
end Go.Proofs.Ytmeeldcgmfplnaa
