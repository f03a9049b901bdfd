/-
  The plain law of SessionResumes; a row of steps read.
-/
import Derived.Test.YtmeeldcgmfplnaaW26
set_option linter.unusedVariables false
set_option linter.unusedSimpArgs false
namespace Go.Proofs.Ytmeeldcgmfplnaa
open Go.RowKit

theorem stp_at {ok : Nat → Prop} {w : World} {A : Option Addr} {n : Nat} {xs : List Stp} (h : kStp.C ok w A n xs) {i : Nat} (hi : i < n) {x : Stp} (hx : xs[i]? = some x) :
    ∃ ad A' c', A = some ad ∧ Sl 1 kU8 ok w A' c' x.m.p ∧ w.cell? (ad.add (i * 9)) = some (.int .i64 x.doo) ∧
      w.cell? ⟨(ad.add (i * 9)).block, (ad.add (i * 9)).off + 1, none⟩ = some (.string x.m.t) ∧ w.cell? ⟨(ad.add (i * 9)).block, (ad.add (i * 9)).off + 2, none⟩ = some (.slice A' x.m.p.length c') ∧
      w.cell? ⟨(ad.add (i * 9)).block, (ad.add (i * 9)).off + 3, none⟩ = some (.int .i64 x.m.q) ∧ w.cell? ⟨(ad.add (i * 9)).block, (ad.add (i * 9)).off + 4, none⟩ = some (.bool x.m.r) ∧
      w.cell? ⟨(ad.add (i * 9)).block, (ad.add (i * 9)).off + 5, none⟩ = some (.int .i64 x.m.u) ∧ w.cell? ⟨(ad.add (i * 9)).block, (ad.add (i * 9)).off + 6, none⟩ = some (.int .i64 x.kind) ∧
      w.cell? ⟨(ad.add (i * 9)).block, (ad.add (i * 9)).off + 7, none⟩ = some (.int .i64 x.id) ∧ w.cell? ⟨(ad.add (i * 9)).block, (ad.add (i * 9)).off + 8, none⟩ = some (.bool x.online) := by
  obtain ⟨ad, c, rfl, ⟨A', c', rfl, hS⟩, hc⟩ := Kn.C_at h hi hx
  refine ⟨ad, A', c', rfl, hS, hc 0 _ rfl, ?_, ?_, ?_, ?_, ?_, ?_, ?_, ?_⟩
  · rw [← add_field _ _ _ (by decide)]; exact hc 1 _ rfl
  · rw [← add_field _ _ _ (by decide)]; exact hc 2 _ rfl
  · rw [← add_field _ _ _ (by decide)]; exact hc 3 _ rfl
  · rw [← add_field _ _ _ (by decide)]; exact hc 4 _ rfl
  · rw [← add_field _ _ _ (by decide)]; exact hc 5 _ rfl
  · rw [← add_field _ _ _ (by decide)]; exact hc 6 _ rfl
  · rw [← add_field _ _ _ (by decide)]; exact hc 7 _ rfl
  · rw [← add_field _ _ _ (by decide)]; exact hc 8 _ rfl

/-- What a step makes of a session. -/
def stepR (s : Ses) (x : Stp) : Ses := if x.doo = 0 then (deliverD s x.m x.online).1 else (answerD s x.kind x.id).1

/-- A session that began as nothing. -/
structure Inv (s : Ses) : Prop where
  fl : s.flight.length ≤ 4
  qu : s.queue.length ≤ 16
  ids : s.ids = []
  subs : s.subs = []
  st : ∀ f ∈ s.flight, f.st = 1 ∨ f.st = 2
theorem Inv.zero : Inv ses0 := ⟨by decide, by decide, rfl, rfl, fun f hf => by cases hf⟩
theorem Inv.sent {s : Ses} (h : Inv s) (m : Msg) (hl : s.flight.length < 4) : Inv (sendS s m) := by
  refine ⟨by simp [sendS]; omega, h.qu, h.ids, h.subs, fun f hf => ?_⟩
  have hf' : f ∈ s.flight ++ [fly m (nxt s.flight s.nid) s.snt] := hf
  rcases List.mem_append.1 hf' with hf | hf
  · exact h.st f hf
  · rw [List.mem_singleton.1 hf]; exact .inl rfl
theorem Inv.refilled : ∀ (q : List Msg) (s : Ses), Inv s → q.length ≤ 16 → Inv (refillFrom q s).1
  | [], s, h, hq => ⟨h.fl, Nat.zero_le _, h.ids, h.subs, h.st⟩
  | m :: q, s, h, hq => by
    simp only [refillFrom]
    split
    · rename_i hl
      have h1 := h.sent m hl
      exact Inv.refilled q _ ⟨h1.fl, by show q.length ≤ 16; simp at hq; omega, h1.ids, h1.subs, h1.st⟩ (by simp at hq; omega)
    · exact ⟨h.fl, hq, h.ids, h.subs, h.st⟩
theorem Inv.less {s : Ses} (h : Inv s) (i : Nat) : Inv (lessS s i) := by
  refine ⟨Nat.le_trans (List.length_eraseIdx_le _ _) h.fl, h.qu, h.ids, h.subs, fun f hf => h.st f (List.mem_of_mem_eraseIdx hf)⟩
theorem Inv.done {s : Ses} (h : Inv s) (a : Option Nat) : Inv (doneD s a).1 := by
  cases a with
  | none => exact h
  | some i => exact Inv.refilled _ _ (h.less i) h.qu
theorem Inv.delivered {s : Ses} (h : Inv s) (m : Msg) (on : Bool) : Inv (deliverD s m on).1 := by
  unfold deliverD
  split
  · exact h
  · split
    · exact h
    · split
      · rename_i h2
        exact h.sent m h2.2.1
      · split
        · exact h
        · rename_i h3
          exact ⟨h.fl, by simp; omega, h.ids, h.subs, h.st⟩
theorem Inv.answered {s : Ses} (h : Inv s) (kind id : Int) : Inv (answerD s kind id).1 := by
  unfold answerD
  split
  · exact h
  · split
    · exact h.done _
    · split
      · cases hf : s.flight.findIdx? (findP id 38) with
        | none => exact h
        | some i =>
          refine ⟨by show (s.flight.modify i gotF).length ≤ 4; rw [List.length_modify]; exact h.fl, h.qu, h.ids, h.subs, fun f hf => ?_⟩
          have hf' : f ∈ s.flight.modify i gotF := hf
          obtain ⟨j, hj⟩ := List.mem_iff_getElem?.1 hf'
          rw [List.getElem?_modify] at hj
          cases hs : s.flight[j]? with
          | none => rw [hs] at hj; cases hj
          | some g =>
            rw [hs] at hj
            have hm := List.mem_of_getElem? hs
            by_cases he : i = j
            · have : gotF g = f := by simpa [he] using hj
              rw [← this]; exact .inr rfl
            · have : g = f := by simpa [he] using hj
              rw [← this]; exact h.st g hm
      · split
        · exact h.done _
        · split
          · exact ⟨h.fl, h.qu, by show s.ids.filter _ = []; rw [h.ids]; rfl, h.subs, h.st⟩
          · exact h
theorem Inv.step {s : Ses} (h : Inv s) (x : Stp) : Inv (stepR s x) := by
  unfold stepR
  split
  · exact h.delivered _ _
  · exact h.answered _ _
theorem Inv.light {s : Ses} (h : Inv s) : lightB s = true := by
  have h1 := h.fl; have h2 := h.qu
  unfold lightB
  rw [h.ids, h.subs]
  simp
  omega

/-- What one flight tells again. -/
def pkF (f : Flt) : Pkt := if f.st = 1 then pub f.m f.id true else bareP 6 f.id
theorem redo_pk {f : Flt} (h : f.st = 1 ∨ f.st = 2) : redo f = [pkF f] := by
  unfold redo pkF
  rcases h with h | h
  · rw [if_pos h, if_pos h]
  · rw [if_neg (by omega), if_pos h, if_neg (by omega)]
theorem redoL_map : ∀ (fs : List Flt), (∀ f ∈ fs, f.st = 1 ∨ f.st = 2) → redoL fs = fs.map pkF
  | [], _ => rfl
  | f :: fs, h => by
    have e : redoL (f :: fs) = redo f ++ redoL fs := by simp [redoL]
    rw [e, redo_pk (h f (by simp)), redoL_map fs (fun g hg => h g (by simp [hg]))]
    rfl
theorem refilled_full : ∀ (q : List Msg) (s : Ses), (refillFrom q s).1.queue = [] ∨ ¬ (refillFrom q s).1.flight.length < 4
  | [], s => .inl rfl
  | m :: q, s => by
    simp only [refillFrom]
    split
    · exact refilled_full q _
    · rename_i h
      exact .inr h
theorem refill_twice (s : Ses) : refillD (refillD s).1 = ((refillD s).1, []) := by
  rcases refilled_full s.queue s with h | h
  · exact refill_none _ h
  · exact refill_full _ h
/-- All that the law asks of the two resumptions. -/
theorem resumes_plain (s : Ses) (h : Inv s) : ∃ t p, resumeD s = (t, p) ∧ resumeD t = (t, t.flight.map pkF) ∧ Inv t ∧ s.flight.length ≤ p.length ∧ (t.queue.length = 0 ∨ t.flight.length = 4) := by
  have ht : Inv (refillD s).1 := Inv.refilled s.queue s h h.qu
  refine ⟨(refillD s).1, _, rfl, ?_, ht, ?_, ?_⟩
  · unfold resumeD
    rw [refill_twice]
    show ((refillD s).1, redoL (refillD s).1.flight ++ []) = _
    rw [redoL_map _ ht.st, List.append_nil]
  · rw [List.length_append, redoL_map _ h.st, List.length_map]
    omega
  · rcases refilled_full s.queue s with h1 | h1
    · exact .inl (by show (refillFrom s.queue s).1.queue.length = 0; rw [h1]; rfl)
    · exact .inr (by have := ht.fl; show (refillFrom s.queue s).1.flight.length = 4; have h2 : (refillFrom s.queue s).1.flight.length ≤ 4 := this; omega)
end Go.Proofs.Ytmeeldcgmfplnaa
