/-
  Contract: session.nextId.
-/
import Derived.Test.YtmeeldcgmfplnaaW3
import Derived.Maps.OwnOps
import Derived.Maps.OwnSet
import Derived.ScopeJumps
set_option linter.unusedVariables false
set_option linter.unusedSimpArgs false
namespace Go.Proofs.Ytmeeldcgmfplnaa
open Go.RowKit Go.Maps
attribute [local go_sem] setRow_setCell_same setRow_setCell_other setRow_cell_same setRow_cell_other setRow_frozen setRow_shape

/-- The first id behind i that is not among ids; so many are tried. -/
def nxtFrom : Nat → List Int → Int → Int
  | 0, _, _ => 0
  | k + 1, ids, i => if (i % 65535 + 1) ∈ ids then nxtFrom k ids (i % 65535 + 1) else i % 65535 + 1
/-- The next id of a session. -/
def nxt (fs : List Flt) (nid : Int) : Int := nxtFrom 65535 (fs.map (·.id)) (nid % 65536)

theorem i64_and65535 (n : Int) : bits .and .i64 n 65535 = n % 65536 := by
  have h127 : (BitVec.ofInt 64 65535).toNat = 2 ^ 16 - 1 := by decide
  have key : (BitVec.ofInt 64 n &&& BitVec.ofInt 64 65535).toNat = (n % ((2 ^ 64 : Nat) : Int)).toNat % 2 ^ 16 := by
    rw [BitVec.toNat_and, BitVec.toNat_ofInt, h127, Nat.and_two_pow_sub_one_eq_mod]
  show IntKind.i64.wrap ((BitVec.ofInt 64 n &&& BitVec.ofInt 64 65535).toNat : Nat) = n % 65536
  rw [key, IntKind.wrap_i64]
  omega

theorem snoc_ind {α : Type} {P : List α → Prop} (h0 : P []) (h1 : ∀ l x, P l → P (l ++ [x])) (l : List α) : P l := by
  rw [← List.reverse_reverse l]
  induction l.reverse with
  | nil => exact h0
  | cons x t ih => rw [List.reverse_cons]; exact h1 _ _ ih

abbrev tru : DataW Unit := .lit (.bool true)
abbrev fls : DataW Unit := .lit (.bool false)
theorem keyLit_int (n : Int) : WideAt.IsKeyLit (.int .i64 n) := by simp [WideAt.IsKeyLit]
theorem isMap_setOf (l : List Int) : IsMap (setOf tru (l.map (Lit.int .i64))) := by
  refine snoc_ind (P := fun l => IsMap (setOf tru (l.map (Lit.int .i64)))) ⟨[], rfl⟩ (fun l x ih => ?_) l
  rw [List.map_append, List.map_singleton, setOf_snoc]
  exact ih.put _ _
theorem atKey_ids (l : List Int) (i : Int) : (setOf tru (l.map (Lit.int .i64))).atKey (.int .i64 i) fls = if i ∈ l then tru else fls := by
  refine snoc_ind (P := fun l => (setOf tru (l.map (Lit.int .i64))).atKey (.int .i64 i) fls = if i ∈ l then tru else fls) (by simp [setOf, DataW.atKey]) (fun l x ih => ?_) l
  rw [List.map_append, List.map_singleton, setOf_snoc]
  by_cases h : i = x
  · subst h
    rw [atKey_put_same (isMap_setOf l) (keyLit_int _)]
    simp
  · rw [atKey_put_other (by simp [h])]
    rw [ih]
    simp [h]

/-- 'm[k]' at elements that are bools. -/
theorem wpList_lookup_own_bool {P : Program} (w : World) {ops : Array Oper} {rest : List Oper} {o : Oper} {a : Act} {Q : Exit → Act → World → Prop}
    (hg : o.guard = none) (m x : Operand) (t : TypeId) (hop : o.op = Op.lookup t m x false)
    (k e : TypeId) (K : Keyed P k) (ht : P.underlying t = some (.map k e)) (he : P.underlying e = some .bool) (hz : (zeroValue e).run P w = .ok (.bool false) w) (b n : Nat) (D : DataW Unit)
    (hm : a.eval m = .map (some b)) (hown : w.ownsMap P k (plainElem P e) b n D) (key : Value) (kl : Lit) (hx : a.eval x = key) (hkey : keyOf P k key = some kl)
    (c : Bool) (hat : D.atKey kl fls = .lit (.bool c)) (hK : wpList P ops Q rest (a.put o.dst (.bool c)) w) :
    wpList P ops Q (o :: rest) a w := by
  refine wpList_plain hg fun K' hK' => ?_
  obtain ⟨v, ps, hrun, hv⟩ := hown.lookup K ht hz (plainElem_bool he false) hkey
  have hvb : ∃ c, v = .bool c ∧ D.atKey kl fls = .lit (.bool c) := by
    unfold plainElem at hv
    rw [he] at hv
    cases v <;> simp at hv
    rename_i c
    exact ⟨c, rfl, hv.1.symm⟩
  obtain ⟨c', rfl, hat'⟩ := hvb
  have hcc : c' = c := by
    have := hat'.symm.trans hat
    injection this with this
    injection this
  subst hcc
  unfold Oper.wp
  simp [execOp, hop, hm, hx, hrun, Result.andThen]
  exact hK' _ _ hK

theorem atKey_in {l : List Int} {i : Int} (h : i ∈ l) : (setOf tru (l.map (Lit.int .i64))).atKey (.int .i64 i) fls = .lit (.bool true) := by rw [atKey_ids, if_pos h]
theorem atKey_out {l : List Int} {i : Int} (h : i ∉ l) : (setOf tru (l.map (Lit.int .i64))).atKey (.int .i64 i) fls = .lit (.bool false) := by rw [atKey_ids, if_neg h]

theorem law3 : Keyed Try.prog 3 := int_keyed Try.underlying3
theorem zero4 (w : World) : (zeroValue 4).run Try.prog w = .ok (.bool false) w := by kernel_rfl

/-- In the loop over the flights: so many ids are in the map. -/
structure R50 (fs : List Flt) (g : Nat) (vs : Array Value) (w : World) (k : Nat) (wx : World) : Prop where
  b1 : Blk wx g 27 vs
  taken : wx.ownsMap Try.prog 3 (plainElem Try.prog 4) w.heap.size k (setOf tru (((fs.take k).map (·.id)).map (Lit.int .i64)))
  below : Below w.heap.size w wx

/-- What nextId leaves. -/
def Post50 (fs : List Flt) (nid : Int) (w : World) (e : Ending) (w' : World) : Prop := e = .returned (.int .i64 (nxt fs nid)) ∧ Below w.heap.size w w'

theorem R50.step {fs : List Flt} {g : Nat} {vs : Array Value} {w wx wl w2 : World} {k : Nat} {x : Flt} (h : R50 fs g vs w k wx) (hb : Below wx.heap.size wx wl) (hx : fs[k]? = some x)
    (hm : w2.ownsMap Try.prog 3 (plainElem Try.prog 4) w.heap.size (k + 1) ((setOf tru (((fs.take k).map (·.id)).map (Lit.int .i64))).put (.int .i64 x.id) tru)) (hg : wl.grownBy w2 (some w.heap.size)) (hgw : g < w.heap.size) : R50 fs g vs w (k + 1) w2 where
  b1 := (h.b1.belowAll hb).grown hg (fun e => by injection e with e; omega)
  taken := by
    have hlt := (List.getElem?_eq_some_iff.1 hx).1
    have hv := (List.getElem?_eq_some_iff.1 hx).2
    rw [take_snoc _ _ hlt, hv, List.map_append, List.map_append, List.map_singleton, List.map_singleton, setOf_snoc]
    exact hm
  below := by
    have h1 := below_all h.below h.below.size hb
    exact h1.grown hg h1.size (fun g hg' => by injection hg' with hg'; omega)

/-- At the label: so many ids have been tried, the last of them id. -/
structure J50 (fs : List Flt) (nid : Int) (w : World) (n : Nat) (id : Int) (wx : World) : Prop where
  taken : wx.ownsMap Try.prog 3 (plainElem Try.prog 4) w.heap.size fs.length (setOf tru ((fs.map (·.id)).map (Lit.int .i64)))
  below : Below w.heap.size w wx
  lo : 0 ≤ id
  hi : id ≤ 65535
  tries : n < 65535
  same : nxtFrom (65535 - n) (fs.map (·.id)) id = nxt fs nid

/-- It is free: the answer. -/
theorem J50.free {fs : List Flt} {nid : Int} {w wx : World} {n : Nat} {id : Int} (h : J50 fs nid w n id wx) (hm : id % 65535 + 1 ∉ fs.map (·.id)) : nxt fs nid = id % 65535 + 1 := by
  rw [← h.same]
  obtain ⟨k, hk⟩ : ∃ k, 65535 - n = k + 1 := ⟨65535 - n - 1, by have := h.tries; omega⟩
  rw [hk, nxtFrom, if_neg hm]
/-- It is taken, and there is another one to be tried. -/
theorem J50.more {fs : List Flt} {nid : Int} {w wx : World} {n : Nat} {id : Int} (h : J50 fs nid w n id wx) (hm : id % 65535 + 1 ∈ fs.map (·.id)) (hn : n + 1 < 65535) : J50 fs nid w (n + 1) (id % 65535 + 1) wx where
  taken := h.taken
  below := h.below
  lo := by omega
  hi := by omega
  tries := hn
  same := by
    rw [← h.same]
    obtain ⟨k, hk⟩ : ∃ k, 65535 - n = k + 1 := ⟨65535 - n - 1, by omega⟩
    rw [hk, nxtFrom, if_pos hm]
    congr 1
    omega
/-- All have been tried. -/
theorem J50.none {fs : List Flt} {nid : Int} {w wx : World} {n : Nat} {id : Int} (h : J50 fs nid w n id wx) (hm : id % 65535 + 1 ∈ fs.map (·.id)) (hn : ¬ n + 1 < 65535) : nxt fs nid = 0 := by
  rw [← h.same]
  have hk : 65535 - n = 0 + 1 := by have := h.tries; omega
  rw [hk, nxtFrom, if_pos hm, nxtFrom]

set_option maxRecDepth 100000 in
set_option maxHeartbeats 1000000 in
theorem nextId_any (fs : List Flt) (nid : Int) (v0 v1 v2 v4 v6 v7 : Value) (A : Option Addr) (c : Nat) (ok : Nat → Prop) (g : Nat) (w : World)
    (hb : Blk w g 27 #[v0, v1, v2, .slice A fs.length c, v4, .int .i64 nid, v6, v7]) (h : Sl 88 kFlt ok w A c fs) :
    Calls Try.prog 50 #[.pointer (some ⟨g, 0, none⟩)] w (Post50 fs nid w) := by
  have hfb : fs.length ≤ 140737488355328 := by have := h.2.2.1; omega
  have hmm := @run_makeMap Try.prog
  have hgl := hb.lt
  obtain ⟨b1c, b1f, _, _⟩ := hb.all
  have H := Aside.mk h; have HB := Aside.mk hb
  clear h hb
  go_enter Try.func50, Try.ntmps50
  go_wp2_with fail
  refine wp_scope_jumps 0 (fun a' w' => ∃ (n : Nat) (id : Int) (u5 u8 u9 u10 u11 u12 u13 u14 u15 u16 u17 u18 u19 u20 u21 u22 u23 u24 u25 u26 u27 u28 u29 u30 u31 u32 u33 u34 u35 u36 u37 u38 : Value), a' = { tmps := #[.pointer (some ⟨g, 0, none⟩), undef, .int .i64 0, .map (some w.heap.size), undef, u5, .int .i64 id, .int .i64 n, u8, u9, u10, u11, u12, u13, u14, u15, u16, u17, u18, u19, u20, u21, u22, u23, u24, u25, u26, u27, u28, u29, u30, u31, u32, u33, u34, u35, u36, u37, u38], defers := [] } ∧ J50 fs nid w n id w') (fun a' _ => 65535 - (intOf (a'.tmps.getD 7 undef)).toNat) rfl ?_ ?_
  · go_wp2_with fail
    have hM := World.ownsMap_made w Try.prog 3 (plainElem (H := Unit) Try.prog 4)
    have hM2 : R50 fs g #[v0, v1, v2, .slice A fs.length c, v4, .int .i64 nid, v6, v7] w 0 (w.alloc (.map #[] 0)) := ⟨HB.out.alloc _, by simpa [setOf] using hM, (Below.refl _ _).alloc (Nat.le_refl _) _⟩
    have HM := Aside.mk hM2
    clear hM hM2
    go_loopw [14] (fun i wr => ∃ k : Nat, k ≤ fs.length ∧ i = .int .i64 k ∧ R50 fs g #[v0, v1, v2, .slice A fs.length c, v4, .int .i64 nid, v6, v7] w k wr) (fun i _ => fs.length - (intOf i).toNat)
    case atStart => exact ⟨0, Nat.zero_le _, rfl, HM.out⟩
    case round =>
      clear b1c b1f
      obtain ⟨k, hk, rfl, hR⟩ := hrel
      by_cases hlt : k < fs.length
      · have hlt' : (k : Int) < (fs.length : Int) := by omega
        have hk0 : (0 : Int) ≤ (k : Int) := by omega
        have hx : fs[k]? = some fs[k] := List.getElem?_eq_getElem hlt
        obtain ⟨ad, A', c', rfl, hP, hw, e0, e1, e2, e3, e4, e5, e6, e7⟩ := flt_at (H.out.below hR.below).2.2.2 hlt hx
        generalize hxq : fs[k] = x at hx hP hw e0 e1 e2 e3 e4 e5 e6 e7
        have HX := Aside.mk hx; have HW := Aside.mk hw; have HR := Aside.mk hR
        clear hx hP hw hR hxq
        go_wp2_with (at_mapUpdate; go_must (refine wpList_mapUpdate_own _ rfl _ _ _ 91 rfl 3 4 law3 Try.underlying91 _ w.heap.size k _ rfl (HR.out.taken.alloc _) (by unfold maxLen; omega) _ _ _ rfl rfl (keyOf_int_mk Try.underlying3 HW.out) _ [] (plainElem_bool Try.underlying4 true) ?_))
        intro w1 hM1 hg1
        have HN := Aside.mk (R50.step HR.out ((Below.refl _ _).alloc (Nat.le_refl _) _) HX.out (by simpa using hM1) hg1 hgl)
        clear hM1 hg1 e0 e1 e2 e3 e4 e5 e6 e7 HR HX HW
        go_wp2
        go_roundw
        case rel => exact ⟨k + 1, by omega, by go_num, HN.out⟩
        case measure => simp [intOf]; omega
      · have hke : k = fs.length := by omega
        have hge : decide (k < fs.length) = false := by simp; omega
        have hT := hR.taken
        rw [hke, List.take_length] at hT
        obtain ⟨b1c, b1f, _, _⟩ := hR.b1.all
        have hbits := i64_and65535 nid
        have hm0 : 0 ≤ nid % 65536 := by omega
        have hm1 : nid % 65536 ≤ 65535 := by omega
        have HJ := Aside.mk (show J50 fs nid w 0 (nid % 65536) wr from ⟨hT, hR.below, hm0, hm1, by decide, rfl⟩)
        clear hR hT hke hlt hk HM
        go_wp2_with fail
        go_step3
        generalize nid % 65536 = id at *
        clear hbits
        by_cases hmem : id % 65535 + 1 ∈ fs.map (·.id)
        · have HMm := Aside.mk hmem; clear hmem
          go_wp2_with (at_lookup; go_must (refine wpList_lookup_own_bool _ rfl _ _ 91 rfl 3 4 law3 Try.underlying91 Try.underlying4 (zero4 _) w.heap.size fs.length _ rfl HJ.out.taken _ _ rfl (keyOf_int_mk Try.underlying3 (In64.mk (by omega) (by omega))) true (atKey_in HMm.out) ?_))
          go_step3
          exact ⟨rfl, 1, id % 65535 + 1, _, _, _, _, _, _, _, _, _, _, _, _, _, _, _, _, _, _, _, _, _, _, _, _, _, _, _, _, _, _, _, _, rfl, HJ.out.more HMm.out (by decide)⟩
        · have HMm := Aside.mk hmem; clear hmem
          go_wp2_with (at_lookup; go_must (refine wpList_lookup_own_bool _ rfl _ _ 91 rfl 3 4 law3 Try.underlying91 Try.underlying4 (zero4 _) w.heap.size fs.length _ rfl HJ.out.taken _ _ rfl (keyOf_int_mk Try.underlying3 (In64.mk (by omega) (by omega))) false (atKey_out HMm.out) ?_))
          simp only [Exit.jump]
          go_ret
          exact ⟨by rw [HJ.out.free HMm.out]; rfl, HJ.out.below⟩
  · rintro a' w' ⟨n, id, u5, u8, u9, u10, u11, u12, u13, u14, u15, u16, u17, u18, u19, u20, u21, u22, u23, u24, u25, u26, u27, u28, u29, u30, u31, u32, u33, u34, u35, u36, u37, u38, rfl, hJ⟩
    have hm0 := hJ.lo; have hm1 := hJ.hi
    have hn0 := hJ.tries
    have HJ := Aside.mk hJ
    clear hJ b1c b1f
    by_cases hmem : id % 65535 + 1 ∈ fs.map (·.id)
    · have HMm := Aside.mk hmem; clear hmem
      by_cases hnn : n + 1 < 65535
      · have hnn' : (n : Int) + 1 < 65535 := by omega
        go_wp2_with (at_lookup; go_must (refine wpList_lookup_own_bool _ rfl _ _ 91 rfl 3 4 law3 Try.underlying91 Try.underlying4 (zero4 _) w.heap.size fs.length _ rfl HJ.out.taken _ _ rfl (keyOf_int_mk Try.underlying3 (In64.mk (by omega) (by omega))) true (atKey_in HMm.out) ?_))
        go_step3
        refine ⟨rfl, ⟨n + 1, id % 65535 + 1, _, _, _, _, _, _, _, _, _, _, _, _, _, _, _, _, _, _, _, _, _, _, _, _, _, _, _, _, _, _, _, _, rfl, HJ.out.more HMm.out hnn⟩, ?_⟩
        simp [intOf]
        omega
      · have hnn' : ¬ (n : Int) + 1 < 65535 := by omega
        go_wp2_with (at_lookup; go_must (refine wpList_lookup_own_bool _ rfl _ _ 91 rfl 3 4 law3 Try.underlying91 Try.underlying4 (zero4 _) w.heap.size fs.length _ rfl HJ.out.taken _ _ rfl (keyOf_int_mk Try.underlying3 (In64.mk (by omega) (by omega))) true (atKey_in HMm.out) ?_))
        simp only [Exit.jump]
        go_ret
        exact ⟨by rw [HJ.out.none HMm.out hnn]; rfl, HJ.out.below⟩
    · have HMm := Aside.mk hmem; clear hmem
      go_wp2_with (at_lookup; go_must (refine wpList_lookup_own_bool _ rfl _ _ 91 rfl 3 4 law3 Try.underlying91 Try.underlying4 (zero4 _) w.heap.size fs.length _ rfl HJ.out.taken _ _ rfl (keyOf_int_mk Try.underlying3 (In64.mk (by omega) (by omega))) false (atKey_out HMm.out) ?_))
      simp only [Exit.jump]
      go_ret
      exact ⟨by rw [HJ.out.free HMm.out]; rfl, HJ.out.below⟩
attribute [irreducible] nxt nxtFrom
end Go.Proofs.Ytmeeldcgmfplnaa
