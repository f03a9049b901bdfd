/-
  The plain law of SessionIds.
-/
import Derived.Test.YtmeeldcgmfplnaaW29
import Derived.Test.YtmeeldcgmfplnaaReads3
set_option linter.unusedVariables false
set_option linter.unusedSimpArgs false
namespace Go.Proofs.Ytmeeldcgmfplnaa
open Go.RowKit

theorem nxt_range (fs : List Flt) (nid : Int) : 0 ≤ nxt fs nid ∧ nxt fs nid ≤ 65535 := by
  unfold nxt
  rcases nxtFrom_range 65535 (fs.map (·.id)) (nid % 65536) with h | h <;> omega

/-- The session of SessionIds' loop. -/
structure JN (s : Ses) : Prop where
  inv : Inv s
  lo : 0 ≤ s.nid
  hi : s.nid ≤ 65535

def sesN (n : Int) : Ses := ⟨⟨#[]⟩, [], [], [], [], n, 0, 0⟩
theorem JN.start {n : Int} (h1 : 0 ≤ n) (h2 : n ≤ 65535) : JN (sesN n) := ⟨⟨by simp [sesN], by simp [sesN], rfl, rfl, fun f hf => by cases hf⟩, h1, h2⟩
theorem JN.sent {s : Ses} (h : JN s) (hl : s.flight.length < 4) : JN (sendS s msg0) := ⟨h.inv.sent _ hl, (nxt_range _ _).1, (nxt_range _ _).2⟩

/-- What Deliver makes of it. -/
theorem ids_deliver (s : Ses) (h : JN s) :
    (s.flight.length < 4 ∧ deliverD s msg0 true = (sendS s msg0, [pub msg0 (nxt s.flight s.nid) false], false) ∧ JN (sendS s msg0)) ∨
    ∃ t d, deliverD s msg0 true = (t, [], d) ∧ JN t ∧ t.nid = s.nid := by
  unfold deliverD
  have e1 : msg0.q = 1 := rfl
  rw [e1, if_neg (by decide), if_neg (by decide)]
  split
  · rename_i hc
    exact .inl ⟨hc.2.1, rfl, h.sent hc.2.1⟩
  · split
    · exact .inr ⟨_, _, rfl, h, rfl⟩
    · rename_i hq
      refine .inr ⟨_, _, rfl, ⟨⟨h.inv.fl, ?_, h.inv.ids, h.inv.subs, h.inv.st⟩, h.lo, h.hi⟩, rfl⟩
      simp; omega

/-- The last of what refill tells bears the session's last id. -/
theorem refill_last : ∀ (q : List Msg) (s : Ses), ((refillFrom q s).2 = [] ∧ (refillFrom q s).1.nid = s.nid) ∨
    (∃ x, (refillFrom q s).2.getLast? = some x ∧ x.id = (refillFrom q s).1.nid ∧ 0 ≤ (refillFrom q s).1.nid ∧ (refillFrom q s).1.nid ≤ 65535)
  | [], s => .inl ⟨rfl, rfl⟩
  | m :: q, s => by
    simp only [refillFrom]
    split
    · right
      rcases refill_last q { sendS s m with queue := q, hd := up s.hd } with ⟨h1, h2⟩ | ⟨x, h1, h2, h3, h4⟩
      · refine ⟨pub m (nxt s.flight s.nid) false, ?_, ?_, ?_⟩
        · rw [h1]; rfl
        · rw [h2]; rfl
        · rw [h2]; exact nxt_range _ _
      · refine ⟨x, ?_, h2, h3, h4⟩
        rw [List.getLast?_cons, h1]; rfl
    · exact .inl ⟨rfl, rfl⟩

/-- What Answer makes of it. -/
theorem ids_answer (s : Ses) (h : JN s) (id : Int) :
    (∃ t, answerD s 4 id = (t, []) ∧ JN t ∧ t.nid = s.nid) ∨
    ∃ t l x, answerD s 4 id = (t, l) ∧ JN t ∧ l ≠ [] ∧ l[l.length - 1]? = some x ∧ x.id = t.nid := by
  unfold answerD
  split
  · exact .inl ⟨s, rfl, h, rfl⟩
  · rw [if_pos rfl]
    cases hf : s.flight.findIdx? (findP id 37) with
    | none => exact .inl ⟨s, rfl, h, rfl⟩
    | some i =>
      have hI : Inv (refillD (lessS s i)).1 := Inv.refilled _ _ (h.inv.less i) h.inv.qu
      rcases refill_last s.queue (lessS s i) with ⟨h1, h2⟩ | ⟨x, h1, h2, h3, h4⟩
      · refine .inl ⟨(refillD (lessS s i)).1, ?_, ⟨hI, ?_, ?_⟩, h2⟩
        · show refillD (lessS s i) = _
          exact Prod.ext rfl h1
        · exact h2 ▸ h.lo
        · exact h2 ▸ h.hi
      · refine .inr ⟨(refillD (lessS s i)).1, (refillD (lessS s i)).2, x, rfl, ⟨hI, h3, h4⟩, ?_, ?_, h2⟩
        · intro e
          have h1' : (refillD (lessS s i)).2.getLast? = some x := h1
          rw [e] at h1'; cases h1'
        · rw [← List.getLast?_eq_getElem?]; exact h1

/-- The law's own search for the id. -/
structure JK (fs : List Flt) (n : Int) (k : Nat) (id : Int) : Prop where
  kle : k ≤ 3
  lo : 1 ≤ id
  hi : id ≤ 65535
  same : ∃ j, id = j % 65535 + 1 ∧ nxtFrom (4 - k) (fs.map (·.id)) j = n
  ne : n ≠ 0
theorem nxtFrom_steps (ids : List Int) (i : Int) (h : nxtFrom 4 ids i ≠ 0) : ∀ k, nxtFrom (4 + k) ids i = nxtFrom 4 ids i
  | 0 => rfl
  | k + 1 => by
    have ih := nxtFrom_steps ids i h k
    rw [← ih] at h
    rw [← ih]
    exact nxtFrom_more (4 + k) ids i h
theorem JK.start {s : Ses} (h : JN s) (hl : s.flight.length < 4) : JK s.flight (nxt s.flight s.nid) 0 (s.nid % 65535 + 1) := by
  have hlo := h.lo; have hhi := h.hi
  have h4 : nxtFrom 4 (s.flight.map (·.id)) s.nid ≠ 0 := nxtFrom_free 0 _ _ hlo hhi (by simpa using hl)
  have e : nxt s.flight s.nid = nxtFrom 4 (s.flight.map (·.id)) s.nid := by
    unfold nxt
    rw [show s.nid % 65536 = s.nid by omega]
    exact nxtFrom_steps _ _ h4 65531
  exact ⟨by omega, by omega, by omega, ⟨s.nid, rfl, e.symm⟩, e ▸ h4⟩
theorem mem_ids (fs : List Flt) (id : Int) : onB fs id = true ↔ id ∈ fs.map (·.id) := by
  unfold onB
  rw [List.any_eq_true, List.mem_map]
  constructor
  · rintro ⟨f, hf, he⟩; exact ⟨f, hf, by simpa using he⟩
  · rintro ⟨f, hf, he⟩; exact ⟨f, hf, by simpa using he⟩
theorem JK.done {fs : List Flt} {n : Int} {k : Nat} {id : Int} (h : JK fs n k id) (hm : onB fs id = false) : id = n := by
  obtain ⟨j, rfl, e⟩ := h.same
  have hk := h.kle
  obtain ⟨m, hm'⟩ : ∃ m, 4 - k = m + 1 := ⟨3 - k, by omega⟩
  rw [hm', nxtFrom_succ, if_neg (fun hx => by rw [(mem_ids _ _).2 hx] at hm; cases hm)] at e
  exact e
theorem JK.more {fs : List Flt} {n : Int} {k : Nat} {id : Int} (h : JK fs n k id) (hm : onB fs id = true) : JK fs n (k + 1) (id % 65535 + 1) := by
  obtain ⟨j, rfl, e⟩ := h.same
  have hk := h.kle
  obtain ⟨m, hm'⟩ : ∃ m, 4 - k = m + 1 := ⟨3 - k, by omega⟩
  rw [hm', nxtFrom_succ, if_pos ((mem_ids _ _).1 hm)] at e
  have hm0 : m ≠ 0 := by
    rintro rfl
    rw [nxtFrom_zero] at e
    exact h.ne e.symm
  exact ⟨by omega, by omega, by omega, ⟨_, rfl, by rw [show 4 - (k + 1) = m by omega]; exact e⟩, h.ne⟩

theorem Sl.front {α : Type} {bytes : Nat} {d : Kn α} {ok : Nat → Prop} {w : World} {A : Option Addr} {c : Nat} {xs ys : List α} (h : Sl bytes d ok w A c (xs ++ ys)) : Sl bytes d ok w A c xs := by
  obtain ⟨h1, h2, h3, h4⟩ := h
  rw [List.length_append] at h1 h3
  refine ⟨by omega, h2, Nat.le_trans (Nat.mul_le_mul_right _ (by omega)) h3, rfl, fun hn => ?_⟩
  obtain ⟨ad, cs, e, ho, hr, hc⟩ := h4.2 (by simp; omega)
  refine ⟨ad, cs.take (xs.length * d.sz), e, ho, ?_, fun j u hu => hc j u ?_⟩
  · have := hr.take xs.length
    rwa [List.take_left] at this
  · rcases Nat.lt_or_ge j (xs.length * d.sz) with hj | hj
    · rwa [List.getElem?_take_of_lt hj] at hu
    · rw [List.getElem?_take_eq_none hj] at hu; cases hu
/-- A row of bools, read. -/
theorem bool_at {ok : Nat → Prop} {w : World} {A : Option Addr} {n : Nat} {xs : List Bool} (h : kBool.C ok w A n xs) {i : Nat} (hi : i < n) {x : Bool} (hx : xs[i]? = some x) :
    ∃ ad, A = some ad ∧ w.cell? (ad.add i) = some (.bool x) := by
  obtain ⟨ad, c, rfl, hK, hc⟩ := Kn.C_at h hi hx
  have hK' : c = [.bool x] := hK
  subst hK'
  refine ⟨ad, rfl, ?_⟩
  have := hc 0 _ rfl
  simpa [kBool, Kn.scalar] using this
end Go.Proofs.Ytmeeldcgmfplnaa
