import Derived.Test.YtfcjpkigaagnaaaGreatDoorRows
import Derived.WalkKit
import Derived.WalkSpells
import Derived.WalkLawsBesides
import Derived.Laws.IdiomRangeMap
import Derived.Test.YtfcjpkigaagnaaaGreatDoorEvKT
set_option linter.unusedVariables false
namespace Go.Proofs.YtfcjpkigaagnaaaGreatDoor
open Go.RowKit
/-- An entry with a number for its value. -/
def lenE (L : MapEntry → Nat) (e : MapEntry) : MapEntry := { e with val := .int .i64 (L e) }
theorem lenE_born (L : MapEntry → Nat) (es : List MapEntry) : (es.map (lenE L)).map (·.born) = es.map (·.born) := by rw [List.map_map]; rfl
theorem seenSum_bound (L : MapEntry → Nat) (seen : Array Nat) : ∀ es : List MapEntry, 0 ≤ seenSum (es.map (lenE L)) seen ∧ seenSum (es.map (lenE L)) seen ≤ ((es.map fun e => (L e : Int)).sum)
  | [] => ⟨Int.le_refl _, Int.le_refl _⟩
  | x :: l => by
    obtain ⟨h1, h2⟩ := seenSum_bound L seen l
    simp only [List.map_cons, seenSum, List.sum_cons]
    have : valOf (lenE L x).val = (L x : Int) := rfl
    rw [this]
    split <;> constructor <;> omega
theorem seenSum_len (L : MapEntry → Nat) (es : Array MapEntry) (seen : Array Nat) (h : (leftOf es seen).size = 0) : seenSum (es.toList.map (lenE L)) seen = ((es.toList.map fun e => (L e : Int)).sum) := by
  have h2 : leftOf es seen = #[] := Array.eq_empty_of_size_eq_zero h
  unfold leftOf at h2
  rw [Array.filter_eq_empty_iff] at h2
  rw [seenSum_full seen (es.toList.map (lenE L)) (fun x hx => by
    obtain ⟨y, hy, rfl⟩ := List.mem_map.1 hx
    have h3 := h2 y (Array.mem_toList_iff.1 hy)
    cases hc : seen.contains y.born with
    | false => rw [hc] at h3; exact absurd rfl h3
    | true => exact hc), List.map_map]
  rfl
set_option maxRecDepth 1000000 in
set_option maxHeartbeats 1000000 in
theorem used_any (b o r : Nat) (es : Array MapEntry) (clock : Nat) (w : World) (L : MapEntry → Nat) (hd : w.cell? ⟨b, o + 1, none⟩ = some (.map (some r))) (hb : w.heap[r]? = some (.map es clock)) (hst : (∀ x ∈ es.toList, x.born < clock) ∧ (es.toList.map (·.born)).Nodup)
    (hv : ∀ x ∈ es.toList, ∃ y p a k, x.val = .pointer (some ⟨y, p, none⟩) ∧ w.cell? ⟨y, p, none⟩ = some (.slice a (L x) k)) (hB : ((es.toList.map fun e => (L e : Int)).sum) < 1000000000) :
    Calls Tryz.prog 442 #[.pointer (some ⟨b, o, none⟩)] w fun e w' => e = .returned (.int .i64 ((es.toList.map fun e => (L e : Int)).sum)) ∧ ∃ (w1 : World) (seen : Array Nat), (w1.Alike w ∧ w1.tape = w.tape) ∧ w' = w1.alloc (.mapIter (some r) clock seen clock) := by
  have hrg := run_range_map (P := Tryz.prog) w 67 9 75 r es clock Tryz.underlying67 hb
  go_enter Tryz.func442, Tryz.ntmps442
  go_wp2
  go_loopw [3] (fun s w' => ∃ (w1 : World) (seen : Array Nat), (w1.Alike w ∧ w1.tape = w.tape) ∧ w' = w1.alloc (.mapIter (some r) clock seen clock) ∧ s = .int .i64 (seenSum (es.toList.map (lenE L)) seen)) (fun _ w' => (leftOf es (w'.iterSeen w.heap.size)).size)
  case atStart => exact ⟨w, #[], ⟨⟨rfl, rfl, rfl⟩, rfl⟩, rfl, by rw [seenSum_none]⟩
  case round =>
    obtain ⟨w1, seen, ⟨hal, htp⟩, rfl, rfl⟩ := hrel
    have hsz : w1.heap.size = w.heap.size := by rw [hal.1]
    have hb1 : w1.heap[r]? = some (.map es clock) := by rw [hal.1]; exact hb
    have law := run_next_map (P := Tryz.prog) w1 0 r clock clock seen es clock hb1 hst.1 (Nat.le_refl _)
    rw [hsz] at law
    rcases law with ⟨h0, hrun⟩ | ⟨e, he, w2, hal2, hrun⟩
    · have hnx : ∀ ty, (Instr.next (.pointer (some ⟨w.heap.size, 0, none⟩)) false ty).run Tryz.prog (w1.alloc (.mapIter (some r) clock seen clock)) = _ := fun _ => hrun
      go_wp2
      go_ret
      rw [seenSum_len L es seen h0]
      exact ⟨rfl, w1, seen, ⟨hal, htp⟩, rfl⟩
    · have htp2 : w2.tape = w1.tape := by
        have g1 : (w1.alloc (.mapIter (some r) clock seen clock)).heap[w.heap.size]? = some (.mapIter (some r) clock seen clock) := by rw [← hsz]; exact heap_alloc_new _ _
        have g2 : (w1.alloc (.mapIter (some r) clock seen clock)).heap[r]? = some (.map es clock) := by
          rw [heap_alloc_old _ _ ?_, hb1]
          rcases Nat.lt_or_ge r w1.heap.size with h | h
          · exact h
          · simp [Array.getElem?_eq_none h] at hb1
        have g3 := Go.Ev.next_tape g1 g2 (next_test_false seen es clock clock hst.1 (Nat.le_refl _)) hrun
        exact g3
      obtain ⟨y, p, a, k, hval, hcell⟩ := hv e (mem_left he).1
      rw [hval] at hrun
      have hnx : ∀ ty, (Instr.next (.pointer (some ⟨w.heap.size, 0, none⟩)) false ty).run Tryz.prog (w1.alloc (.mapIter (some r) clock seen clock)) = _ := fun _ => hrun
      have hsz2 : w2.heap.size = w.heap.size := by rw [hal2.1, hal.1]
      have hb2 : w2.heap[r]? = some (.map es clock) := by rw [hal2.1]; exact hb1
      have hen := run_entry_map (P := Tryz.prog) w2 r clock seen es clock e hb2 (mem_left he).1 hst.2
      rw [hsz2, hval] at hen
      have hcell2 : (w2.alloc (.mapIter (some r) clock (seen.push e.born) clock)).cell? ⟨y, p, none⟩ = some (.slice a (L e) k) := by
        have e1 : w2.heap = w.heap := by rw [hal2.1, hal.1]
        have hlt : y < w.heap.size := by
          rcases Nat.lt_or_ge y w.heap.size with h | h
          · exact h
          · unfold World.cell? at hcell; simp [Array.getElem?_eq_none h] at hcell
        rw [← hcell]
        refine World.cell?_of_block ?_
        show (w2.heap.push _)[y]? = _
        rw [e1, Array.getElem?_push_lt hlt, Array.getElem?_eq_getElem hlt]
      go_wp2
      have hs1 := seenSum_push seen (lenE L e) (mem_left he).2 (es.toList.map (lenE L)) (by rw [lenE_born]; exact hst.2) (List.mem_map.2 ⟨e, (mem_left he).1, rfl⟩)
      have hs2 := seenSum_bound L seen es.toList
      have hs3 := seenSum_bound L (seen.push e.born) es.toList
      go_roundw
      case rel =>
        refine ⟨w2, seen.push e.born, ⟨⟨hal2.1.trans hal.1, hal2.2.1.trans hal.2.1, hal2.2.2.trans hal.2.2⟩, htp2.trans htp⟩, rfl, ?_⟩
        have hs1 : seenSum (es.toList.map (lenE L)) (seen.push e.born) = seenSum (es.toList.map (lenE L)) seen + (L e : Int) := hs1
        rw [hs1] at hs3 ⊢
        have hw : wrap64 (seenSum (es.toList.map (lenE L)) seen + (L e : Int)) = seenSum (es.toList.map (lenE L)) seen + (L e : Int) := by
          have h1 := hs2.1
          have h2 := hs3.2
          have h3 := hs3.1
          generalize seenSum (es.toList.map (lenE L)) seen + (L e : Int) = z at h2 h3 ⊢
          generalize (es.toList.map fun e => (L e : Int)).sum = t at h2 hB
          simp only [wrap64]
          omega
        rw [hw]
      case measure =>
        rw [← hsz2, World.iterSeen_alloc, hsz2, ← hsz, World.iterSeen_alloc]
        exact left_shrinks es seen e he
end Go.Proofs.YtfcjpkigaagnaaaGreatDoor
