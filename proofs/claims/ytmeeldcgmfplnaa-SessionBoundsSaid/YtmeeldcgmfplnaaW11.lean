/-
  Contracts: the comparisons, at equal data.
-/
import Derived.Test.YtmeeldcgmfplnaaW3
import Derived.Deep.RegionLaw
import Derived.Laws.BytesArg
set_option linter.unusedVariables false
set_option linter.unusedSimpArgs false
namespace Go.Proofs.Ytmeeldcgmfplnaa
open Go.RowKit
attribute [local go_sem] setRow_setCell_same setRow_setCell_other setRow_cell_same setRow_cell_other setRow_frozen setRow_shape
attribute [local go_sem ↓] Go.wp_at_zero Go.wp_at_succ

theorem want_at {ok : Nat → Prop} {w : World} {A : Option Addr} {n : Nat} {xs : List Want} (h : kWant.C ok w A n xs) {i : Nat} (hi : i < n) {x : Want} (hx : xs[i]? = some x) :
    ∃ ad, A = some ad ∧ w.cell? (ad.add (i * 2)) = some (.string x.f) ∧ w.cell? ⟨(ad.add (i * 2)).block, (ad.add (i * 2)).off + 1, none⟩ = some (.int .i64 x.q) := by
  obtain ⟨ad, c, rfl, rfl, hc⟩ := Kn.C_at h hi hx
  refine ⟨ad, rfl, hc 0 _ rfl, ?_⟩
  rw [← add_field _ _ _ (by decide)]
  exact hc 1 _ rfl

/-- True is answered; memory that was there is as it was. -/
def PostT (w : World) (e : Ending) (w' : World) : Prop := e = .returned (.bool true) ∧ Below w.heap.size w w'

set_option maxRecDepth 100000 in
set_option maxHeartbeats 1000000 in
theorem sameWants_any (xs : List Want) (A : Option Addr) (c : Nat) (B : Option Addr) (d : Nat) (ok ok' : Nat → Prop) (w : World) (h1 : Sl 24 kWant ok w A c xs) (h2 : Sl 24 kWant ok' w B d xs) :
    Calls Try.prog 31 #[.slice A xs.length c, .slice B xs.length d] w (PostT w) := by
  have hl := h1.2.2.1
  have hl' : xs.length ≤ 140737488355328 := by omega
  have H1 := Aside.mk h1; have H2 := Aside.mk h2
  clear h1 h2
  go_enter Try.func31, Try.ntmps31
  go_wp2_with fail
  go_loopw [13] (fun i wr => ∃ k : Nat, k ≤ xs.length ∧ i = .int .i64 k ∧ Below w.heap.size w wr) (fun i _ => xs.length - (intOf i).toNat)
  case atStart => exact ⟨0, Nat.zero_le _, rfl, Below.refl _ _⟩
  case round =>
    obtain ⟨k, hk, rfl, hB⟩ := hrel
    by_cases hlt : k < xs.length
    · have hlt' : (k : Int) < (xs.length : Int) := by omega
      have hk0 : (0 : Int) ≤ (k : Int) := by omega
      have hx : xs[k]? = some xs[k] := List.getElem?_eq_getElem hlt
      obtain ⟨ad, rfl, e0, e1⟩ := want_at (H1.out.below hB).2.2.2 hlt hx
      obtain ⟨bd, rfl, f0, f1⟩ := want_at (H2.out.below hB).2.2.2 hlt hx
      have HB := Aside.mk hB
      clear hB hx
      go_upto_region 6 with fail
      go_region_with fail
      all_goals
        go_wp2_with fail
        exact ⟨⟨k + 1, by omega, rfl, HB.out.drew⟩, by simp [intOf]; omega⟩
    · have hge : decide (k < xs.length) = false := by simp; omega
      have HB := Aside.mk hB
      clear hB
      go_wp2_with fail
      go_ret
      exact ⟨rfl, HB.out⟩

/-- string(payload). -/
theorem conv_Sl {ok : Nat → Prop} {w : World} {A : Option Addr} {c : Nat} {xs : List Int} (h : Sl 1 kU8 ok w A c xs) : (convert 28 9 (.slice A xs.length c)).run Try.prog w = .ok (.string (strOfNums xs)) w := by
  cases xs with
  | nil =>
    cases A with
    | none => exact run_convert_bytes_nil w 28 5 rfl rfl 0 c 9 rfl
    | some ad =>
      rw [run_convert_bytes_string w 28 9 5 _ _ c rfl rfl rfl, run_bytesToString w ad _ c [] (by simpa using run_loadCells_list (P := Try.prog) w ad [] (fun j v hj => by simp at hj))]
      simp [strOfNums, ByteArray.empty, ByteArray.emptyWithCapacity]
      rfl
  | cons x t =>
    obtain ⟨ad, cs, rfl, _, hr, hc⟩ := h.2.2.2.2 (by simp)
    have hcs : cs = (x :: t).map (Value.int .u8) := by
      apply List.ext_getElem?
      intro i
      rcases Nat.lt_or_ge i (x :: t).length with hi | hi
      · have h1 := hr.2 i _ (List.getElem?_eq_getElem hi)
        have h2 : ((cs.drop (i * 1)).take 1)[0]? = some (Value.int .u8 (x :: t)[i]) := by
          have h3 : (cs.drop (i * 1)).take 1 = [Value.int .u8 (x :: t)[i]] := h1
          rw [h3]; rfl
        rw [List.getElem?_take_of_lt (by decide), List.getElem?_drop, Nat.mul_one, Nat.add_zero] at h2
        rw [h2, List.getElem?_map, List.getElem?_eq_getElem hi]
        rfl
      · have hl : cs.length = (x :: t).length * 1 := hr.1
        rw [List.getElem?_eq_none (by omega), List.getElem?_eq_none (by simpa using hi)]
    have hl := run_loadCells_list (P := Try.prog) w ad ((x :: t).map (Value.int .u8)) (fun j v hj => hc j v (hcs ▸ hj))
    rw [List.length_map] at hl
    rw [run_convert_bytes_string w 28 9 5 _ _ c rfl rfl rfl, run_bytesToString w ad _ c (x :: t) hl, foldl_push_bytes]
    simp [strOfNums, ByteArray.empty, ByteArray.emptyWithCapacity]
    rfl

set_option maxRecDepth 100000 in
set_option maxHeartbeats 1000000 in
theorem sameMessage_any (m : Msg) (A : Option Addr) (c : Nat) (B : Option Addr) (d : Nat) (ok ok' : Nat → Prop) (w : World) (h1 : Sl 1 kU8 ok w A c m.p) (h2 : Sl 1 kU8 ok' w B d m.p) :
    Calls Try.prog 32 #[.agg #[.string m.t, .slice A m.p.length c, .int .i64 m.q, .bool m.r, .int .i64 m.u], .agg #[.string m.t, .slice B m.p.length d, .int .i64 m.q, .bool m.r, .int .i64 m.u]] w (PostT w) := by
  have hW : Below w.heap.size w ((w.alloc (.cells (msgCells m A c).toArray 30)).alloc (.cells (msgCells m B d).toArray 30)) := ((Below.refl _ _).alloc (Nat.le_refl _) _).alloc (by simp) _
  have c1 := conv_Sl (h1.below hW); have c2 := conv_Sl (h2.below hW)
  have HW := Aside.mk hW
  clear h1 h2 hW
  go_enter Try.func32, Try.ntmps32
  go_wp2_with fail
  go_ret
  exact ⟨by simp, HW.out⟩

set_option maxRecDepth 100000 in
set_option maxHeartbeats 1000000 in
theorem sameMessages_any (xs : List Msg) (A : Option Addr) (c : Nat) (B : Option Addr) (d : Nat) (ok ok' : Nat → Prop) (w : World) (h1 : Sl 64 kMsg ok w A c xs) (h2 : Sl 64 kMsg ok' w B d xs) :
    Calls Try.prog 17 #[.slice A xs.length c, .slice B xs.length d] w (PostT w) := by
  have hl := h1.2.2.1
  have hl' : xs.length ≤ 140737488355328 := by omega
  have H1 := Aside.mk h1; have H2 := Aside.mk h2
  clear h1 h2
  go_enter Try.func17, Try.ntmps17
  go_wp2_with fail
  go_loopw [13] (fun i wr => ∃ k : Nat, k ≤ xs.length ∧ i = .int .i64 k ∧ Below w.heap.size w wr) (fun i _ => xs.length - (intOf i).toNat)
  case atStart => exact ⟨0, Nat.zero_le _, rfl, Below.refl _ _⟩
  case round =>
    obtain ⟨k, hk, rfl, hB⟩ := hrel
    by_cases hlt : k < xs.length
    · have hlt' : (k : Int) < (xs.length : Int) := by omega
      have hk0 : (0 : Int) ≤ (k : Int) := by omega
      have hx : xs[k]? = some xs[k] := List.getElem?_eq_getElem hlt
      obtain ⟨ad, A', c', rfl, hP, e0, e1, e2, e3, e4⟩ := msg_at (H1.out.below hB).2.2.2 hlt hx
      obtain ⟨bd, B', d', rfl, hQ, f0, f1, f2, f3, f4⟩ := msg_at (H2.out.below hB).2.2.2 hlt hx
      generalize hxq : xs[k] = x at hx hP hQ e0 e1 e2 e3 e4 f0 f1 f2 f3 f4
      have HB := Aside.mk hB; have HP := Aside.mk hP; have HQ := Aside.mk hQ
      clear hB hx hP hQ hxq
      go_upto_region 6 with fail
      go_region_with (first | (go_at_call 32; refine (sameMessage_any x A' c' B' d' ok ok' _ ?_ ?_).mono ?_; exact HP.out.below (Below.refl _ _).drew; exact HQ.out.below (Below.refl _ _).drew; rintro e wv ⟨rfl, hb1⟩))
      all_goals
        have HBv := Aside.mk (below_all HB.out.drew HB.out.size hb1)
        clear hb1
        go_wp2_with fail
        exact ⟨⟨k + 1, by omega, rfl, HBv.out⟩, by simp [intOf]; omega⟩
    · have hge : decide (k < xs.length) = false := by simp; omega
      have HB := Aside.mk hB
      clear hB
      go_wp2_with fail
      go_ret
      exact ⟨rfl, HB.out⟩

theorem pkt_at {ok : Nat → Prop} {w : World} {A : Option Addr} {n : Nat} {xs : List Pkt} (h : kPkt.C ok w A n xs) {i : Nat} (hi : i < n) {x : Pkt} (hx : xs[i]? = some x) :
    ∃ ad A' c', A = some ad ∧ Sl 1 kU8 ok w A' c' x.m.p ∧ w.cell? (ad.add (i * 16)) = some (.int .i64 x.kind) ∧
      (∀ j u, 0 < j → (pktCells x A' c')[j]? = some u → w.cell? ⟨(ad.add (i * 16)).block, (ad.add (i * 16)).off + j, none⟩ = some u) := by
  obtain ⟨ad, c, rfl, ⟨A', c', rfl, hS⟩, hc⟩ := Kn.C_at h hi hx
  refine ⟨ad, A', c', rfl, hS, hc 0 _ rfl, fun j u hj hu => ?_⟩
  rw [← add_field _ _ _ hj]; exact hc j u hu

/-- Behind the two messages' copies in Same. -/
structure R33 (x : Pkt) (A : Option Addr) (c : Nat) (B : Option Addr) (d : Nat) (w : World) (g1 g2 : Nat) (wx : World) : Prop where
  b1 : Blk wx g1 30 (msgCells x.m A c).toArray
  b2 : Blk wx g2 30 (msgCells x.m B d).toArray
  below : Below w.heap.size w wx

set_option maxRecDepth 100000 in
set_option maxHeartbeats 2000000 in
theorem same_any (x : Pkt) (A : Option Addr) (c : Nat) (B : Option Addr) (d : Nat) (ok ok' : Nat → Prop) (w : World) (h1 : Sl 1 kU8 ok w A c x.m.p) (h2 : Sl 1 kU8 ok' w B d x.m.p) :
    Calls Try.prog 33 #[.agg (pktCells x A c).toArray, .agg (pktCells x B d).toArray] w (PostT w) := by
  have H1 := Aside.mk h1; have H2 := Aside.mk h2
  clear h1 h2
  go_enter Try.func33, Try.ntmps33
  go_wp2_with fail
  refine (sameWants_any [] none 0 none 0 (fun _ => True) (fun _ => True) _ (Sl.nil _ _ _ _) (Sl.nil _ _ _ _)).mono ?_
  rintro e w1 ⟨rfl, hb1⟩
  have d1 := ((Blk.new w 43 (pktCells x A c).toArray).alloc (.cells (pktCells x B d).toArray 43)).below hb1 (by simp <;> omega)
  have d2 := (Blk.newAt _ (w.heap.size + 1) (by simp) 43 (pktCells x B d).toArray).below hb1 (by simp <;> omega)
  have HB := Aside.mk (below_all ((((Below.refl w.heap.size w).alloc (Nat.le_refl _) (.cells (pktCells x A c).toArray 43)).alloc (by simp) (.cells (pktCells x B d).toArray 43))) (by simp; omega) hb1)
  have D1 := Aside.mk d1; have D2 := Aside.mk d2
  obtain ⟨d1c, d1f, d1s, d1h⟩ := d1.all
  obtain ⟨d2c, d2f, d2s, d2h⟩ := d2.all
  clear hb1 d1 d2
  go_wp2_with fail
  go_loopw [89] (fun i wr => i = .int .i64 0 ∧ wr = w1) (fun _ _ => 0)
  case atStart => exact ⟨rfl, rfl⟩
  case round =>
    obtain ⟨rfl, rfl⟩ := hrel
    go_upto_region 9 with fail
    go_cut [6, 7] (fun p q wx => ∃ g1 g2, p = .pointer (some ⟨g1, 0, none⟩) ∧ q = .pointer (some ⟨g2, 0, none⟩) ∧ R33 x A c B d w g1 g2 wx)
    case first =>
      have hlt1 := D2.out.lt
      have hlt0 : w.heap.size < wr.heap.size := by omega
      have hne0 : ¬ w.heap.size = wr.heap.size := by omega
      have hne1 : ¬ w.heap.size + 1 = wr.heap.size := by omega
      have hlt0' : w.heap.size < wr.heap.size + 1 := by omega
      have hlt1' : w.heap.size + 1 < wr.heap.size + 1 := by omega
      have hne0' : ¬ w.heap.size = wr.heap.size + 1 := by omega
      have hne1' : ¬ w.heap.size + 1 = wr.heap.size + 1 := by omega
      go_region_with fail
      all_goals
        go_wp2_with fail
        go_meet
        refine ⟨_, _, rfl, rfl, ?_, ?_, ?_⟩
        · first | exact (Blk.new wr 30 _).alloc _ | exact Blk.newAt _ _ (by simp) 30 _
        · first | exact (Blk.new wr 30 _).alloc _ | exact Blk.newAt _ _ (by simp) 30 _
        · exact ((HB.out.alloc (by omega) _).alloc (by simp; omega) _).drew
    case rest =>
      obtain ⟨g1, g2, rfl, rfl, hR⟩ := hcut
      clear d1c d1f d1s d1h d2c d2f d2s d2h
      obtain ⟨d1c, d1f, d1s, d1h⟩ := hR.b1.all
      obtain ⟨d2c, d2f, d2s, d2h⟩ := hR.b2.all
      have c1 := conv_Sl (H1.out.below hR.below); have c2 := conv_Sl (H2.out.below hR.below)
      have HR := Aside.mk hR
      clear hR
      go_wp2_with fail
      go_ret
      exact ⟨by simp, HR.out.below⟩
end Go.Proofs.Ytmeeldcgmfplnaa
