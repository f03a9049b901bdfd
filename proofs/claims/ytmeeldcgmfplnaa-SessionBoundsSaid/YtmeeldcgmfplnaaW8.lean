/-
  Contracts of the reference: told, next.
-/
import Derived.Test.YtmeeldcgmfplnaaW6
set_option linter.unusedVariables false
set_option linter.unusedSimpArgs false
namespace Go.Proofs.Ytmeeldcgmfplnaa
open Go.RowKit
attribute [local go_sem] setRow_setCell_same setRow_setCell_other setRow_cell_same setRow_cell_other setRow_frozen setRow_shape
attribute [local go_sem ↓] Go.wp_at_zero Go.wp_at_succ

/-- What told leaves: the packet, its payload the message's own. -/
def Post29 (m : Msg) (A : Option Addr) (c : Nat) (id : Int) (dup : Bool) (w : World) (e : Ending) (w' : World) : Prop :=
  e = .returned (.agg (pktCells (pub m id dup) A c).toArray) ∧ Below w.heap.size w w'

set_option maxHeartbeats 1000000 in
theorem told_any (m : Msg) (A : Option Addr) (c : Nat) (id : Int) (dup : Bool) (w : World) :
    Calls Try.prog 29 #[.agg #[.string m.t, .slice A m.p.length c, .int .i64 m.q, .bool m.r, .int .i64 m.u], .int .i64 id, .bool dup] w (Post29 m A c id dup w) := by
  go_enter Try.func29, Try.ntmps29
  go_wp2_with fail
  refine bodyPost_ret (results_cell_row rfl _ _ (w.heap.size + 1) 43 (pktCells (pub m id dup) A c).toArray (0, 0) _ rfl (Blk.newAt _ _ (by simp) 43 _) Try.underlying43 rfl (by kernel_rfl)) rfl ⟨rfl, ?_⟩
  exact ((Below.refl _ _).alloc (Nat.le_refl _) _).alloc (by simp) _

/-! ### next -/
theorem nxtFrom_zero (ids : List Int) (i : Int) : nxtFrom 0 ids i = 0 := by rw [nxtFrom]
theorem nxtFrom_succ (k : Nat) (ids : List Int) (i : Int) : nxtFrom (k + 1) ids i = if (i % 65535 + 1) ∈ ids then nxtFrom k ids (i % 65535 + 1) else i % 65535 + 1 := by rw [nxtFrom]
theorem nxtFrom_more : ∀ (k : Nat) (ids : List Int) (i : Int), nxtFrom k ids i ≠ 0 → nxtFrom (k + 1) ids i = nxtFrom k ids i
  | 0, _, _, h => absurd (nxtFrom_zero _ _) h
  | k + 1, ids, i, h => by
    rw [nxtFrom_succ k] at h ⊢
    rw [nxtFrom_succ (k + 1)]
    split
    · rename_i hm
      rw [if_pos hm] at h
      exact nxtFrom_more k ids _ h
    · rfl
theorem nxt_ref (fs : List Flt) (nid : Int) (h : fs.length < 4) : nxtFrom 65536 (fs.map (·.id)) (nid % 65536) = nxt fs nid := by
  have h1 := nxt_ne fs nid h
  unfold nxt at h1 ⊢
  exact nxtFrom_more 65535 _ _ h1

/-- In next's outer loop. -/
structure R52 (fs : List Flt) (r : Int) (cs : Array Value) (w : World) (k : Nat) (id : Int) (wr : World) : Prop where
  kle : k ≤ 65536
  lo : 0 ≤ id
  hi : id ≤ 65535
  same : nxtFrom (65536 - k) (fs.map (·.id)) id = r
  b1 : Blk wr w.heap.size 27 cs
  below : Below w.heap.size w wr
theorem R52.free {fs : List Flt} {r : Int} {cs : Array Value} {w wr : World} {k : Nat} {id : Int} (h : R52 fs r cs w k id wr) (hk : k < 65536) (hm : id % 65535 + 1 ∉ fs.map (·.id)) : r = id % 65535 + 1 := by
  rw [← h.same]
  obtain ⟨j, hj⟩ : ∃ j, 65536 - k = j + 1 := ⟨65536 - k - 1, by omega⟩
  rw [hj, nxtFrom_succ, if_neg hm]
theorem R52.more {fs : List Flt} {r : Int} {cs : Array Value} {w wr wx : World} {k : Nat} {id : Int} (h : R52 fs r cs w k id wr) (hk : k < 65536) (hm : id % 65535 + 1 ∈ fs.map (·.id)) (h1 : Blk wx w.heap.size 27 cs) (hb : Below w.heap.size w wx) : R52 fs r cs w (k + 1) (id % 65535 + 1) wx where
  kle := hk
  lo := by omega
  hi := by omega
  same := by
    rw [← h.same]
    obtain ⟨j, hj⟩ : ∃ j, 65536 - k = j + 1 := ⟨65536 - k - 1, by omega⟩
    rw [hj, nxtFrom_succ, if_pos hm]
    congr 1
    omega
  b1 := h1
  below := hb

theorem R52.start {fs : List Flt} {nid r : Int} {cs : Array Value} {w wx : World} (hr : nxtFrom 65536 (fs.map (·.id)) (nid % 65536) = r) (h1 : Blk wx w.heap.size 27 cs) (hb : Below w.heap.size w wx) : R52 fs r cs w 0 (nid % 65536) wx where
  kle := Nat.zero_le _
  lo := by omega
  hi := by omega
  same := by rw [Nat.sub_zero]; exact hr
  b1 := h1
  below := hb
theorem R52.none {fs : List Flt} {r : Int} {cs : Array Value} {w wr : World} {k : Nat} {id : Int} (h : R52 fs r cs w k id wr) (hk : ¬ k < 65536) : r = 0 := by
  rw [← h.same, show 65536 - k = 0 from by omega, nxtFrom_zero]
theorem w52 (k : Nat) (h : k < 65536) : wrap64 ((k : Int) + 1) = ((k + 1 : Nat) : Int) := by
  have h' : (k : Int) < 65536 := by omega
  unfold wrap64
  omega
theorem m52 (N : Nat) (k : Nat) (h : k < N) (v : Value) (hv : v = .int .i64 ((k + 1 : Nat) : Int)) : N - (intOf v).toNat < N - (intOf (.int .i64 (k : Int))).toNat := by
  subst hv
  simp only [intOf, Int.toNat_natCast]
  omega
theorem mem_take_succ {fs : List Flt} {j : Nat} {x : Flt} (hx : fs[j]? = some x) (id : Int) : decide (id ∈ (fs.take (j + 1)).map (·.id)) = (decide (id ∈ (fs.take j).map (·.id)) || (x.id == id)) := by
  have hlt := (List.getElem?_eq_some_iff.1 hx).1
  have hv := (List.getElem?_eq_some_iff.1 hx).2
  rw [take_snoc _ _ hlt, hv]
  simp only [List.map_append, List.map_cons, List.map_nil, List.mem_append, List.mem_singleton]
  generalize (fs.take j).map (·.id) = l
  by_cases h1 : id ∈ l
  · simp [h1]
  · by_cases h2 : id = x.id
    · subst h2
      simp
    · have h3 : ¬ x.id = id := fun e => h2 e.symm
      simp [h1, h2, h3]

def Post52 (r : Int) (w : World) (e : Ending) (w' : World) : Prop := e = .returned (.int .i64 r) ∧ Below w.heap.size w w'

theorem tmod65536 (n : Int) : (n.tmod 65536 + 65536).tmod 65536 = n % 65536 := by
  have h1 := Int.tmod_add_mul_tdiv n 65536
  have h2 : -65536 < n.tmod 65536 := by
    rcases Int.le_total 0 n with h | h
    · have := Int.tmod_nonneg 65536 h; omega
    · have h3 := Int.tmod_nonneg 65536 (a := -n) (by omega)
      have h4 := Int.tmod_lt_of_pos (-n) (b := 65536) (by decide)
      rw [Int.neg_tmod] at h3 h4
      omega
  have h3 := Int.tmod_lt_of_pos n (b := 65536) (by decide)
  rw [Int.tmod_eq_emod_of_nonneg (by omega)]
  omega

set_option maxRecDepth 100000 in
set_option maxHeartbeats 1000000 in
theorem next_any (s : Ses) (A1 : Option Addr) (c1 : Nat) (A2 : Option Addr) (c2 : Nat) (A3 : Option Addr) (c3 : Nat) (A4 : Option Addr) (c4 : Nat) (ok : Nat → Prop) (w : World) (h : RdSes ok w s A1 c1 A2 c2 A3 c3 A4 c4) (r : Int) (hr : nxtFrom 65536 (s.flight.map (·.id)) (s.nid % 65536) = r) :
    Calls Try.prog 52 #[.agg (sesCells s A1 c1 A2 c2 A3 c3 A4 c4)] w (Post52 r w) := by
  have HR0 := Aside.mk hr
  clear hr
  have hl3 := h.flight.2.2.1
  have hl3' : s.flight.length ≤ 140737488355328 := by omega
  have H := Aside.mk h.flight
  clear h
  simp only [sesCells]
  go_enter Try.func52, Try.ntmps52
  go_wp2_with fail
  have hstart : (wrap64 (s.nid.tmod 65536 + 65536)).tmod 65536 = s.nid % 65536 := by
    have h1 := tmod65536 s.nid
    have h2 : wrap64 (s.nid.tmod 65536 + 65536) = s.nid.tmod 65536 + 65536 := by
      have h3 := Int.tmod_lt_of_pos s.nid (b := 65536) (by decide)
      have h4 : -65536 < s.nid.tmod 65536 := by
        rcases Int.le_total 0 s.nid with h | h
        · have := Int.tmod_nonneg 65536 h; omega
        · have h3 := Int.tmod_nonneg 65536 (a := -s.nid) (by omega)
          have h4 := Int.tmod_lt_of_pos (-s.nid) (b := 65536) (by decide)
          rw [Int.neg_tmod] at h3 h4
          omega
      unfold wrap64
      omega
    rw [h2, h1]
  have HSt := Aside.mk (R52.start HR0.out (Blk.new w 27 (sesCells s A1 c1 A2 c2 A3 c3 A4 c4)) ((Below.refl _ _).alloc (Nat.le_refl _) _))
  have HStart := Aside.mk hstart
  clear hstart
  go_loopw [3, 12] (fun i j wr => ∃ (k : Nat) (id : Int), i = .int .i64 id ∧ j = .int .i64 k ∧ R52 s.flight r (sesCells s A1 c1 A2 c2 A3 c3 A4 c4) w k id wr) (fun _ j _ => 65536 - (intOf j).toNat)
  case atStart => exact ⟨0, s.nid % 65536, by rw [HStart.out], rfl, HSt.out⟩
  case round =>
    clear HSt HStart
    obtain ⟨k, id, rfl, rfl, hR⟩ := hrel
    have hlo := hR.lo; have hhi := hR.hi
    have hkle := hR.kle
    by_cases hlt : k < 65536
    · have hlt' : (k : Int) < 65536 := by omega
      have hk0 : (0 : Int) ≤ (k : Int) := by omega
      obtain ⟨b1c, b1f, _, _⟩ := hR.b1.all
      have HR := Aside.mk hR; have HK := Aside.mk hlt
      clear hR hkle hlt
      go_upto_if 17 with fail
      clear hlt' hk0
      go_cut [3] (fun v wx => v = .int .i64 (id % 65535 + 1) ∧ Aside (R52 s.flight r (sesCells s A1 c1 A2 c2 A3 c3 A4 c4) w k id wx))
      case first =>
        by_cases hid : 65535 < id + 1
        · have hid2 : id = 65535 := by omega
          go_wp2_with fail
          go_meet
          exact ⟨by rw [hid2]; rfl, HR⟩
        · have hid2 : id % 65535 + 1 = id + 1 := by omega
          go_wp2_with fail
          go_meet
          exact ⟨by rw [hid2], HR⟩
      case rest =>
        clear b1c b1f HR
        obtain ⟨rfl, HR⟩ := hcut
        obtain ⟨b1c, b1f, _, _⟩ := HR.out.b1.all
        have hi1 : 1 ≤ id % 65535 + 1 := by omega
        have hi2 : id % 65535 + 1 ≤ 65535 := by omega
        clear hlo hhi
        go_wp2_with fail
        go_loopw [4, 21] (fun u j wi => ∃ (q : Nat), q ≤ s.flight.length ∧ j = .int .i64 q ∧ u = .bool (decide (id % 65535 + 1 ∈ (s.flight.take q).map (·.id))) ∧ Blk wi w.heap.size 27 (sesCells s A1 c1 A2 c2 A3 c3 A4 c4) ∧ Below w.heap.size w wi) (fun _ j _ => s.flight.length - (intOf j).toNat)
        case atStart => exact ⟨0, Nat.zero_le _, rfl, by simp, HR.out.b1, HR.out.below⟩
        case round =>
          clear b1c b1f
          obtain ⟨q, hq, rfl, rfl, hB1, hBl⟩ := hrel
          by_cases hlt : q < s.flight.length
          · have hlt' : (q : Int) < (s.flight.length : Int) := by omega
            have hq0 : (0 : Int) ≤ (q : Int) := by omega
            have hx : s.flight[q]? = some s.flight[q] := List.getElem?_eq_getElem hlt
            obtain ⟨ad, A', c', rfl, hP, hw, e0, e1, e2, e3, e4, e5, e6, e7⟩ := flt_at (H.out.below hBl).2.2.2 hlt hx
            generalize hxq : s.flight[q] = x at hx hP hw e0 e1 e2 e3 e4 e5 e6 e7
            have HN := Aside.mk (mem_take_succ hx (id % 65535 + 1))
            have HB1 := Aside.mk hB1; have HBl := Aside.mk hBl
            clear hx hP hw hxq hB1 hBl
            generalize hd : decide (id % 65535 + 1 ∈ (s.flight.take q).map (·.id)) = d at HN ⊢
            have HD := Aside.mk hd
            clear hd
            rcases d with _ | _
            all_goals
              go_wp2_with fail
              go_roundw
            case rel => exact ⟨q + 1, by omega, by go_num, by rw [HN.out]; simp, HB1.out.alloc _, HBl.out.alloc HBl.out.size _⟩
            case measure => simp [intOf]; omega
            case rel => exact ⟨q + 1, by omega, by go_num, by rw [HN.out]; simp, HB1.out.alloc _, HBl.out.alloc HBl.out.size _⟩
            case measure => simp [intOf]; omega
          · have hke : q = s.flight.length := by omega
            have hge : decide (q < s.flight.length) = false := by simp; omega
            have HB1 := Aside.mk hB1; have HBl := Aside.mk hBl
            subst hke
            rw [List.take_length]
            clear hB1 hBl hlt hq
            by_cases hmem : id % 65535 + 1 ∈ s.flight.map (·.id)
            · have HM := Aside.mk hmem
              rw [decide_eq_true hmem]
              clear hmem
              go_wp2_with fail
              go_roundw
              case rel => exact ⟨k + 1, id % 65535 + 1, rfl, by rw [w52 k HK.out], HR.out.more HK.out HM.out HB1.out HBl.out⟩
              case measure => exact m52 65536 k HK.out _ (by rw [w52 k HK.out])
            · have HM := Aside.mk hmem
              rw [decide_eq_false hmem]
              clear hmem
              go_wp2_with fail
              go_ret
              exact ⟨by rw [HR.out.free HK.out HM.out]; rfl, HBl.out⟩
    · have hke : k = 65536 := by omega
      have HBl := Aside.mk hR.below
      have HS := Aside.mk (hR.none hlt)
      have hge : decide ((k : Int) < 65536) = false := by simp; omega
      have hge' : ¬ ((k : Int) < 65536) := by omega
      clear hR hke hkle hlt
      go_wp2_with fail
      go_ret
      exact ⟨by rw [HS.out]; rfl, HBl.out⟩
end Go.Proofs.Ytmeeldcgmfplnaa
