/-
  Contracts: the closures of session.Answer, session.find, and slices.IndexFunc at flights.
-/
import Derived.Test.YtmeeldcgmfplnaaW15
set_option linter.unusedVariables false
set_option linter.unusedSimpArgs false
namespace Go.Proofs.Ytmeeldcgmfplnaa
open Go.RowKit
attribute [local go_sem] setRow_setCell_same setRow_setCell_other setRow_cell_same setRow_cell_other setRow_frozen setRow_shape
attribute [local go_sem ↓] Go.wp_at_zero Go.wp_at_succ

theorem cell_alloc' {w : World} {a : Addr} {u : Value} (h : w.cell? a = some u) (o : Obj) : (w.alloc o).cell? a = some u := (World.cell?_alloc_some w a o (by simp [h])).trans h

/-- What the three closures of Answer ask. -/
def kindP (K : Nat) (f : Flt) : Bool := if K = 37 then f.m.q == 1 else if K = 38 then f.m.q == 2 else f.m.q == 2 && f.st == 2
def findP (id : Int) (K : Nat) (f : Flt) : Bool := f.id == id && kindP K f
/-- The place of the first one; -1: there is none. -/
def findI (xs : List Flt) (p : Flt → Bool) : Int := match xs.findIdx? p with
  | some i => i
  | none => -1
theorem ret_i {a b : Int} (h : a = b) : Ending.returned (.int .i64 a) = .returned (.int .i64 b) := by rw [h]
def PostB (b : Bool) (w : World) (e : Ending) (w' : World) : Prop := e = .returned (.bool b) ∧ Below w.heap.size w w'
def PostN (n : Int) (w : World) (e : Ending) (w' : World) : Prop := e = .returned (.int .i64 n) ∧ Below w.heap.size w w'

theorem findI_at {xs : List Flt} {p : Flt → Bool} {k : Nat} {x : Flt} (hx : xs[k]? = some x) (h : ∀ y ∈ xs.take k, p y = false) (hp : p x = true) : findI xs p = k := by
  have e : xs.findIdx? p = some k := by
    rw [List.findIdx?_eq_some_iff_getElem]
    obtain ⟨hk, hv⟩ := List.getElem?_eq_some_iff.1 hx
    refine ⟨hk, by rw [hv]; exact hp, fun j hj => ?_⟩
    have := h xs[j] (List.mem_take_iff_getElem.2 ⟨j, by omega, rfl⟩)
    rw [this]
    decide
  unfold findI
  rw [e]
theorem findI_none {xs : List Flt} {p : Flt → Bool} (h : ∀ y ∈ xs, p y = false) : findI xs p = -1 := by
  have e : xs.findIdx? p = none := by
    rw [List.findIdx?_eq_none_iff]
    exact h
  unfold findI
  rw [e]

theorem is37_any (f : Flt) (A : Option Addr) (c : Nat) (w : World) : Calls Try.prog 37 #[.agg (fltCells f A c).toArray] w (PostB (f.m.q == 1) w) := by
  go_enter Try.func37, Try.ntmps37
  go_wp2_with fail
  go_ret
  exact ⟨rfl, (Below.refl _ _).alloc (Nat.le_refl _) _⟩
theorem is38_any (f : Flt) (A : Option Addr) (c : Nat) (w : World) : Calls Try.prog 38 #[.agg (fltCells f A c).toArray] w (PostB (f.m.q == 2) w) := by
  go_enter Try.func38, Try.ntmps38
  go_wp2_with fail
  go_ret
  exact ⟨rfl, (Below.refl _ _).alloc (Nat.le_refl _) _⟩
theorem is39_any (f : Flt) (A : Option Addr) (c : Nat) (w : World) : Calls Try.prog 39 #[.agg (fltCells f A c).toArray] w (PostB (f.m.q == 2 && f.st == 2) w) := by
  cases hq : (f.m.q == 2)
  · go_enter Try.func39, Try.ntmps39
    go_wp2_with fail
    go_ret
    exact ⟨rfl, (Below.refl _ _).alloc (Nat.le_refl _) _⟩
  · go_enter Try.func39, Try.ntmps39
    go_wp2_with fail
    go_ret
    exact ⟨by simp, (Below.refl _ _).alloc (Nat.le_refl _) _⟩
theorem is_any (K : Nat) (hK : K = 37 ∨ K = 38 ∨ K = 39) (f : Flt) (A : Option Addr) (c : Nat) (w : World) : Calls Try.prog K #[.agg (fltCells f A c).toArray] w (PostB (kindP K f) w) := by
  rcases hK with rfl | rfl | rfl
  · exact is37_any f A c w
  · exact is38_any f A c w
  · exact is39_any f A c w

set_option maxRecDepth 100000 in
theorem pred_any (K : Nat) (hK : K = 37 ∨ K = 38 ∨ K = 39) (f : Flt) (A : Option Addr) (c : Nat) (id : Int) (gi gf : Nat) (w : World) (hi : w.cell? ⟨gi, 0, none⟩ = some (.int .i64 id)) (hf : w.cell? ⟨gf, 0, none⟩ = some (.func (.func K) #[] #[])) :
    Calls Try.prog 55 #[.agg (fltCells f A c).toArray, .pointer (some ⟨gi, 0, none⟩), .pointer (some ⟨gf, 0, none⟩)] w (PostB (findP id K f) w) := by
  have hi' := cell_alloc' hi; have hf' := cell_alloc' hf
  clear hi hf
  unfold findP
  cases he : (f.id == id)
  · go_enter Try.func55, Try.ntmps55
    go_wp2_with fail
    go_ret
    exact ⟨rfl, (Below.refl _ _).alloc (Nat.le_refl _) _⟩
  · rcases hK with rfl | rfl | rfl
    all_goals
      go_enter Try.func55, Try.ntmps55
      go_wp2_with fail
      first | refine (is37_any f A c _).mono ?_ | refine (is38_any f A c _).mono ?_ | refine (is39_any f A c _).mono ?_
      rintro e w1 ⟨rfl, hb⟩
      have HB := Aside.mk (below_all ((Below.refl w.heap.size w).alloc (Nat.le_refl _) (.cells (fltCells f A c).toArray 50)) (by simp) hb)
      clear hb
      go_wp2_with fail
      go_ret
      exact ⟨by simp [kindP], HB.out⟩

set_option maxRecDepth 100000 in
set_option maxHeartbeats 1000000 in
theorem indexFunc_any (K : Nat) (hK : K = 37 ∨ K = 38 ∨ K = 39) (xs : List Flt) (A : Option Addr) (c : Nat) (ok : Nat → Prop) (id : Int) (gi gf : Nat) (w : World) (h : Sl 88 kFlt ok w A c xs)
    (hi : w.cell? ⟨gi, 0, none⟩ = some (.int .i64 id)) (hf : w.cell? ⟨gf, 0, none⟩ = some (.func (.func K) #[] #[])) :
    Calls Try.prog 54 #[.slice A xs.length c, .func (.func 55) #[] #[.pointer (some ⟨gi, 0, none⟩), .pointer (some ⟨gf, 0, none⟩)]] w (PostN (findI xs (findP id K)) w) := by
  have hl : xs.length ≤ 140737488355328 := by have := h.2.2.1; omega
  have H := Aside.mk h; have HI := Aside.mk hi; have HF := Aside.mk hf; have HK := Aside.mk hK
  clear h hi hf hK
  go_enter Try.func54, Try.ntmps54
  go_wp2_with fail
  go_loopw [8] (fun i wr => ∃ k : Nat, k ≤ xs.length ∧ i = .int .i64 k ∧ Below w.heap.size w wr ∧ Aside (∀ y ∈ xs.take k, findP id K y = false)) (fun i _ => xs.length - (intOf i).toNat)
  case atStart => exact ⟨0, Nat.zero_le _, rfl, Below.refl _ _, ⟨by simp⟩⟩
  case round =>
    obtain ⟨k, hk, rfl, hB, HY⟩ := hrel
    by_cases hlt : k < xs.length
    · have hlt' : (k : Int) < (xs.length : Int) := by omega
      have hk0 : (0 : Int) ≤ (k : Int) := by omega
      have hx : xs[k]? = some xs[k] := List.getElem?_eq_getElem hlt
      have ht := take_snoc xs k hlt
      obtain ⟨ad, A', c', rfl, hP, hw, e0, e1, e2, e3, e4, e5, e6, e7⟩ := flt_at (H.out.below hB).2.2.2 hlt hx
      generalize xs[k] = x at hx hP hw e0 e1 e2 e3 e4 e5 e6 e7 ht
      have HX := Aside.mk hx; have HB := Aside.mk hB; have HT := Aside.mk ht
      clear hx hP hw hB ht
      cases hp : findP id K x
      · go_wp2_with fail
        refine (pred_any K HK.out x A' c' id gi gf wr ((HB.out.cell (World.block_lt_of_cell? w _ HI.out)).trans HI.out) ((HB.out.cell (World.block_lt_of_cell? w _ HF.out)).trans HF.out)).mono ?_
        rw [hp]
        rintro e w1 ⟨rfl, hb⟩
        have HB1 := Aside.mk (below_all HB.out HB.out.size hb)
        have HN : Aside (∀ y ∈ xs.take (k + 1), findP id K y = false) := ⟨fun y hy => by
          rw [HT.out] at hy
          rcases List.mem_append.1 hy with hy | hy
          · exact HY.out y hy
          · rw [List.mem_singleton.1 hy]; exact hp⟩
        clear hb e0 e1 e2 e3 e4 e5 e6 e7
        go_wp2_with fail
        go_roundw
        case rel => exact ⟨k + 1, by omega, by go_num, HB1.out, HN⟩
        case measure => simp [intOf]; omega
      · go_wp2_with fail
        refine (pred_any K HK.out x A' c' id gi gf wr ((HB.out.cell (World.block_lt_of_cell? w _ HI.out)).trans HI.out) ((HB.out.cell (World.block_lt_of_cell? w _ HF.out)).trans HF.out)).mono ?_
        rw [hp]
        rintro e w1 ⟨rfl, hb⟩
        have HB1 := Aside.mk (below_all HB.out HB.out.size hb)
        clear hb e0 e1 e2 e3 e4 e5 e6 e7
        go_wp2_with fail
        go_ret
        exact ⟨ret_i (findI_at HX.out HY.out hp).symm, HB1.out⟩
    · have hge : decide (k < xs.length) = false := by simp; omega
      have HB := Aside.mk hB
      have HN : Aside (findI xs (findP id K) = -1) := ⟨findI_none fun y hy => HY.out y (by rw [List.take_of_length_le (by omega)]; exact hy)⟩
      clear hB
      go_wp2_with fail
      go_ret
      exact ⟨ret_i HN.out.symm, HB.out⟩

set_option maxRecDepth 100000 in
theorem find_any (K : Nat) (hK : K = 37 ∨ K = 38 ∨ K = 39) (xs : List Flt) (A : Option Addr) (c : Nat) (ok : Nat → Prop) (id : Int) (g : Nat) (w : World) (h : Sl 88 kFlt ok w A c xs) (hc : w.cell? ⟨g, 3, none⟩ = some (.slice A xs.length c)) :
    Calls Try.prog 36 #[.pointer (some ⟨g, 0, none⟩), .int .i64 id, .func (.func K) #[] #[]] w (PostN (findI xs (findP id K)) w) := by
  have hc' := cell_alloc' (cell_alloc' hc (.cells #[.int .i64 id] 3)) (.cells #[.func (.func K) #[] #[]] 73)
  have hW : Below w.heap.size w ((w.alloc (.cells #[.int .i64 id] 3)).alloc (.cells #[.func (.func K) #[] #[]] 73)) := ((Below.refl _ _).alloc (Nat.le_refl _) _).alloc (by simp) _
  have b1 := (Blk.new w 3 #[.int .i64 id]).alloc (.cells #[.func (.func K) #[] #[]] 73)
  have b2 := Blk.newAt (w.alloc (.cells #[.int .i64 id] 3)) (w.heap.size + 1) (by simp) 73 #[.func (.func K) #[] #[]]
  have H := Aside.mk (h.below hW); have HW := Aside.mk hW; have HK := Aside.mk hK; have B1 := Aside.mk b1; have B2 := Aside.mk b2
  clear h hc hW hK b1 b2
  go_enter Try.func36, Try.ntmps36
  go_wp2_with fail
  refine (indexFunc_any K HK.out xs A c ok id w.heap.size (w.heap.size + 1) _ H.out (B1.out.cells 0) (B2.out.cells 0)).mono ?_
  rintro e w1 ⟨rfl, hb⟩
  have HB := Aside.mk (below_all HW.out HW.out.size hb)
  clear hb
  go_wp2_with fail
  go_ret
  exact ⟨rfl, HB.out⟩
end Go.Proofs.Ytmeeldcgmfplnaa
