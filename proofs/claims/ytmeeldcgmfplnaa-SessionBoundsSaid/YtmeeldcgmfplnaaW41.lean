/-
  The plain law of SessionBounds.
-/
import Derived.Test.YtmeeldcgmfplnaaW30
set_option linter.unusedVariables false
set_option linter.unusedSimpArgs false
namespace Go.Proofs.Ytmeeldcgmfplnaa
open Go.RowKit

theorem nxtFrom_notin : ∀ (k : Nat) (ids : List Int) (i : Int), nxtFrom k ids i ≠ 0 → nxtFrom k ids i ∉ ids
  | 0, _, _, h => absurd (nxtFrom_zero _ _) h
  | k + 1, ids, i, h => by
    rw [nxtFrom_succ] at h ⊢
    split
    · rename_i hm
      rw [if_pos hm] at h
      exact nxtFrom_notin k ids _ h
    · rename_i hm
      exact hm
theorem nxt_notin {fs : List Flt} (nid : Int) (h : fs.length < 4) : ∀ f ∈ fs, f.id ≠ nxt fs nid := by
  intro f hf e
  have h1 := nxt_ne fs nid h
  unfold nxt at h1 e
  exact nxtFrom_notin _ _ _ h1 (e ▸ List.mem_map.2 ⟨f, hf, rfl⟩)
theorem nxt_ge {fs : List Flt} (nid : Int) (h : fs.length < 4) : 1 ≤ nxt fs nid ∧ nxt fs nid ≤ 65535 := by
  have h1 := nxt_ne fs nid h
  unfold nxt at h1 ⊢
  rcases nxtFrom_range 65535 (fs.map (·.id)) (nid % 65536) with h2 | h2
  · exact absurd h2 h1
  · exact h2

def msgN (n : Int) : Msg := ⟨⟨#[116]⟩, [n], 1, false, 0⟩

/-- What the law keeps: the payloads of what is on its way and of what waits are what is open, in order. -/
structure BInv (s : Ses) (o : List Int) (n : Int) : Prop where
  fl : s.flight.length ≤ 4
  qu : s.queue.length ≤ 16
  pay : s.flight.map (fun f => f.m.p) ++ s.queue.map (fun m => m.p) = o.map (fun b => [b])
  qf : ∀ f ∈ s.flight, f.m.q = 1
  qq : ∀ m ∈ s.queue, m.q = 1
  nod : s.flight.Pairwise (fun f g => f.id ≠ g.id)
  idr : ∀ f ∈ s.flight, 1 ≤ f.id ∧ f.id ≤ 65535
  ord : s.flight.Pairwise (fun f g => f.ord < g.ord)
  snt : ∀ f ∈ s.flight, f.ord < s.snt
  cnt : 0 ≤ s.snt ∧ s.snt + s.queue.length ≤ n
  srt : o.Pairwise (· < ·)
  top : ∀ b ∈ o, b ≤ n
theorem BInv.start : BInv ses0 [] 0 := ⟨by simp [ses0], by simp [ses0], rfl, by simp [ses0], by simp [ses0], List.Pairwise.nil, by simp [ses0], List.Pairwise.nil, by simp [ses0], by simp [ses0], List.Pairwise.nil, by simp⟩

theorem BInv.sent {s : Ses} {o : List Int} {n : Int} {m : Msg} {q : List Msg} (h : BInv s o n) (hq : s.queue = m :: q) (hl : s.flight.length < 4) (hn : n ≤ 1000) (hd : Int) : BInv { sendS s m with queue := q, hd := hd } o n := by
  have hc := h.cnt
  rw [hq, List.length_cons] at hc
  have hu : up s.snt = s.snt + 1 := up_small _ hc.1 (by omega)
  have hm1 : m.q = 1 := h.qq m (by rw [hq]; simp)
  have hqu := h.qu
  rw [hq, List.length_cons] at hqu
  have hx := nxt_notin s.nid hl
  have hg := nxt_ge s.nid hl
  have hp := h.pay
  rw [hq, List.map_cons] at hp
  refine ⟨by simp [sendS]; omega, by show q.length ≤ 16; omega, ?_, ?_, fun m' hm' => h.qq m' (by rw [hq]; exact List.mem_cons_of_mem _ hm'), ?_, ?_, ?_, ?_, ?_, h.srt, h.top⟩
  · show (s.flight ++ [fly m (nxt s.flight s.nid) s.snt]).map (fun f => f.m.p) ++ q.map (fun m => m.p) = _
    rw [List.map_append, List.append_assoc]
    exact hp
  · intro f hf
    rcases List.mem_append.1 (show f ∈ s.flight ++ [fly m (nxt s.flight s.nid) s.snt] from hf) with hf | hf
    · exact h.qf f hf
    · rw [List.mem_singleton.1 hf]; exact hm1
  · show (s.flight ++ [fly m (nxt s.flight s.nid) s.snt]).Pairwise _
    rw [List.pairwise_append]
    exact ⟨h.nod, List.pairwise_singleton _ _, fun f hf g hg' => by rw [List.mem_singleton.1 hg']; exact hx f hf⟩
  · intro f hf
    rcases List.mem_append.1 (show f ∈ s.flight ++ [fly m (nxt s.flight s.nid) s.snt] from hf) with hf | hf
    · exact h.idr f hf
    · rw [List.mem_singleton.1 hf]; exact hg
  · show (s.flight ++ [fly m (nxt s.flight s.nid) s.snt]).Pairwise _
    rw [List.pairwise_append]
    exact ⟨h.ord, List.pairwise_singleton _ _, fun f hf g hg' => by rw [List.mem_singleton.1 hg']; exact h.snt f hf⟩
  · intro f hf
    show f.ord < up s.snt
    rw [hu]
    rcases List.mem_append.1 (show f ∈ s.flight ++ [fly m (nxt s.flight s.nid) s.snt] from hf) with hf | hf
    · have := h.snt f hf; omega
    · rw [List.mem_singleton.1 hf]; show s.snt < _; omega
  · show 0 ≤ up s.snt ∧ up s.snt + q.length ≤ n
    rw [hu]
    omega
theorem BInv.refilled : ∀ (q : List Msg) (s : Ses) {o : List Int} {n : Int}, BInv s o n → s.queue = q → n ≤ 1000 → BInv (refillFrom q s).1 o n
  | [], s, o, n, h, hq, hn => by
    have e : (refillFrom [] s).1 = s := by
      obtain ⟨cl, subs, queue, flight, ids, nid, hd, snt⟩ := s
      simp only at hq
      subst hq
      rfl
    rw [e]; exact h
  | m :: q, s, o, n, h, hq, hn => by
    simp only [refillFrom]
    split
    · rename_i hl
      exact BInv.refilled q _ (h.sent hq hl hn (up s.hd)) rfl hn
    · have e : ({ s with queue := m :: q } : Ses) = s := by rw [← hq]
      show BInv ({ s with queue := m :: q } : Ses) o n
      rw [e]; exact h

theorem deliverN_cases (s : Ses) (o : List Int) (n : Int) (on : Bool) (h : BInv s o n) (hn : n ≤ 900) :
    ∃ t l d, deliverD s (msgN (n + 1)) on = (t, l, d) ∧ BInv t (if d then o else o ++ [n + 1]) (n + 1) := by
  have hqn : (msgN (n + 1)).q = 1 := rfl
  have hc := h.cnt
  have hq' : ∀ m ∈ s.queue ++ [msgN (n + 1)], m.q = 1 := fun m hm => by
    rcases List.mem_append.1 hm with hm | hm
    · exact h.qq m hm
    · rw [List.mem_singleton.1 hm]; rfl
  have hs' : (o ++ [n + 1]).Pairwise (· < ·) := by
    rw [List.pairwise_append]
    exact ⟨h.srt, List.pairwise_singleton _ _, fun b hb c hc => by rw [List.mem_singleton.1 hc]; have := h.top b hb; omega⟩
  have ht' : ∀ b ∈ o ++ [n + 1], b ≤ n + 1 := fun b hb => by
    rcases List.mem_append.1 hb with hb | hb
    · have := h.top b hb; omega
    · rw [List.mem_singleton.1 hb]; exact Int.le_refl _
  have hp' : s.flight.map (fun f => f.m.p) ++ (s.queue ++ [msgN (n + 1)]).map (fun m => m.p) = (o ++ [n + 1]).map (fun b => [b]) := by
    rw [List.map_append, ← List.append_assoc, h.pay, List.map_append]
    rfl
  unfold deliverD
  rw [hqn, if_neg (by simp), if_neg (by simp)]
  split
  · rename_i hc2
    have hq0 : s.queue = [] := List.eq_nil_of_length_eq_zero hc2.2.2
    have h1 : BInv { s with queue := s.queue ++ [msgN (n + 1)] } (o ++ [n + 1]) (n + 1) :=
      ⟨h.fl, by simp [hq0], hp', h.qf, hq', h.nod, h.idr, h.ord, h.snt, ⟨hc.1, by simp [hq0] at hc ⊢; omega⟩, hs', ht'⟩
    refine ⟨_, _, false, rfl, ?_⟩
    have h2 := h1.sent (m := msgN (n + 1)) (q := []) (by simp [hq0]) hc2.2.1 (by omega) s.hd
    have e : ({ sendS { s with queue := s.queue ++ [msgN (n + 1)] } (msgN (n + 1)) with queue := [], hd := s.hd } : Ses) = sendS s (msgN (n + 1)) := by
      unfold sendS
      simp [hq0]
    rw [e] at h2
    exact h2
  · split
    · exact ⟨_, _, true, rfl, ⟨h.fl, h.qu, h.pay, h.qf, h.qq, h.nod, h.idr, h.ord, h.snt, ⟨hc.1, by omega⟩, h.srt, fun b hb => by have := h.top b hb; omega⟩⟩
    · rename_i hc3
      exact ⟨_, _, false, rfl, ⟨h.fl, by simp; omega, hp', h.qf, hq', h.nod, h.idr, h.ord, h.snt, ⟨hc.1, by simp; omega⟩, hs', ht'⟩⟩

theorem BInv.resumed {s : Ses} {o : List Int} {n : Int} (h : BInv s o n) (hn : n ≤ 1000) : BInv (resumeD s).1 o n := BInv.refilled s.queue s h rfl hn

theorem erase_map {α β : Type} (f : α → β) (l : List α) (i : Nat) : (l.eraseIdx i).map f = (l.map f).eraseIdx i := by
  rw [List.eraseIdx_eq_take_drop_succ, List.eraseIdx_eq_take_drop_succ, List.map_append, List.map_take, List.map_drop]
/-- The one that an answer takes off. -/
def hitI (fs : List Flt) (id : Int) : Option Nat := fs.findIdx? (fun f => f.id == id)
def offO (fs : List Flt) (o : List Int) (id : Int) : List Int := match hitI fs id with
  | some i => o.eraseIdx i
  | none => o
theorem find37 {fs : List Flt} (h : ∀ f ∈ fs, f.m.q = 1) (id : Int) : fs.findIdx? (findP id 37) = hitI fs id := by
  unfold hitI
  induction fs with
  | nil => rfl
  | cons f fs ih =>
    have e : findP id 37 f = (f.id == id) := by simp [findP, kindP, h f (by simp)]
    rw [List.findIdx?_cons, List.findIdx?_cons, e, ih (fun g hg => h g (by simp [hg]))]
theorem BInv.len {s : Ses} {o : List Int} {n : Int} (h : BInv s o n) : o.length = s.flight.length + s.queue.length := by
  have := congrArg List.length h.pay
  simp at this
  omega
theorem BInv.less {s : Ses} {o : List Int} {n : Int} (h : BInv s o n) {i : Nat} (hi : i < s.flight.length) : BInv (lessS s i) (o.eraseIdx i) n := by
  have hl : (s.flight.eraseIdx i).length = s.flight.length - 1 := List.length_eraseIdx_of_lt hi
  have hsub : (s.flight.eraseIdx i).Sublist s.flight := List.eraseIdx_sublist _ _
  refine ⟨by show (s.flight.eraseIdx i).length ≤ 4; have := h.fl; omega, h.qu, ?_, fun f hf => h.qf f (List.mem_of_mem_eraseIdx hf), h.qq, h.nod.sublist hsub, fun f hf => h.idr f (List.mem_of_mem_eraseIdx hf), h.ord.sublist hsub, fun f hf => h.snt f (List.mem_of_mem_eraseIdx hf), h.cnt, h.srt.sublist (List.eraseIdx_sublist _ _), fun b hb => h.top b (List.mem_of_mem_eraseIdx hb)⟩
  show (s.flight.eraseIdx i).map (fun f => f.m.p) ++ s.queue.map (fun m => m.p) = (o.eraseIdx i).map (fun b => [b])
  rw [erase_map, erase_map, ← h.pay, List.eraseIdx_append_of_lt_length (by simpa using hi)]
theorem BInv.answered {s : Ses} {o : List Int} {n : Int} (h : BInv s o n) (hn : n ≤ 1000) (id : Int) (hr : 1 ≤ id ∧ id ≤ 65535) : BInv (answerD s 4 id).1 (offO s.flight o id) n := by
  unfold answerD offO
  rw [if_neg (by omega), if_pos rfl, find37 h.qf]
  cases hf : hitI s.flight id with
  | none => exact h
  | some i =>
    have hi : i < s.flight.length := (List.findIdx?_eq_some_iff_getElem.1 hf).1
    exact BInv.refilled s.queue (lessS s i) (h.less hi) rfl hn

theorem pays_at {fs : List Flt} {ms : List Msg} {o : List Int} (h : fs.map (fun f => f.m.p) ++ ms.map (fun m => m.p) = o.map (fun b => [b])) {k : Nat} {f : Flt} (hk : fs[k]? = some f) : ∃ b, f.m.p = [b] ∧ o[k]? = some b := by
  have h1 : (fs.map (fun f => f.m.p) ++ ms.map (fun m => m.p))[k]? = (o.map (fun b => [b]))[k]? := by rw [h]
  have hlt := (List.getElem?_eq_some_iff.1 hk).1
  rw [List.getElem?_append_left (by simpa using hlt), List.getElem?_map, List.getElem?_map, hk] at h1
  cases ho : o[k]? with
  | none => rw [ho] at h1; cases h1
  | some b => rw [ho] at h1; exact ⟨b, by simpa using h1, rfl⟩
theorem BInv.pf {s : Ses} {o : List Int} {n : Int} (h : BInv s o n) {k : Nat} {f : Flt} (hk : s.flight[k]? = some f) : ∃ b, f.m.p = [b] ∧ o[k]? = some b := pays_at h.pay hk
theorem BInv.pq {s : Ses} {o : List Int} {n : Int} (h : BInv s o n) {k : Nat} {m : Msg} (hk : s.queue[k]? = some m) : ∃ b, m.p = [b] ∧ o[s.flight.length + k]? = some b := by
  have h1 : (s.flight.map (fun f => f.m.p) ++ s.queue.map (fun m => m.p))[s.flight.length + k]? = (o.map (fun b => [b]))[s.flight.length + k]? := by rw [h.pay]
  rw [List.getElem?_append_right (by simp), List.getElem?_map, List.getElem?_map] at h1
  simp only [List.length_map, Nat.add_sub_cancel_left, hk] at h1
  cases ho : o[s.flight.length + k]? with
  | none => rw [ho] at h1; cases h1
  | some b => rw [ho] at h1; exact ⟨b, by simpa using h1, rfl⟩

/-- What the law's own loop over the flights leaves of what is open. -/
def offK (fs : List Flt) (o : List Int) (id : Int) (k : Nat) : List Int := offO (fs.take k) o id
theorem offK_zero (fs : List Flt) (o : List Int) (id : Int) : offK fs o id 0 = o := rfl
theorem offK_all (fs : List Flt) (o : List Int) (id : Int) : offK fs o id fs.length = offO fs o id := by unfold offK; rw [List.take_length]
theorem hitI_snoc (fs : List Flt) (x : Flt) (id : Int) : hitI (fs ++ [x]) id = (match hitI fs id with | some i => some i | none => if x.id == id then some fs.length else none) := by
  unfold hitI
  rw [List.findIdx?_append]
  cases fs.findIdx? (fun f => f.id == id) with
  | some i => rfl
  | none =>
    cases h : x.id == id <;> simp [List.findIdx?_cons, h]
theorem offK_skip {fs : List Flt} {o : List Int} {id : Int} {k : Nat} {x : Flt} (hx : fs[k]? = some x) (hn : x.id ≠ id) : offK fs o id (k + 1) = offK fs o id k := by
  obtain ⟨hlt, hv⟩ := List.getElem?_eq_some_iff.1 hx
  unfold offK offO
  rw [take_snoc _ _ hlt, hv, hitI_snoc]
  cases hitI (fs.take k) id <;> simp [hn]
theorem offK_hit {fs : List Flt} {o : List Int} {id : Int} {k : Nat} {x : Flt} (hx : fs[k]? = some x) (hd : fs.Pairwise (fun f g => f.id ≠ g.id)) (he : x.id = id) : offK fs o id k = o ∧ offK fs o id (k + 1) = o.eraseIdx k := by
  obtain ⟨hlt, hv⟩ := List.getElem?_eq_some_iff.1 hx
  have hno : hitI (fs.take k) id = none := by
    unfold hitI
    rw [List.findIdx?_eq_none_iff]
    intro y hy
    obtain ⟨j, hj, hjy⟩ := List.mem_iff_getElem.1 hy
    rw [List.length_take] at hj
    rw [List.getElem_take] at hjy
    have := (List.pairwise_iff_getElem.1 hd) j k (by omega) hlt (by omega)
    rw [hjy, hv, he] at this
    simpa using this
  have hl : (fs.take k).length = k := by rw [List.length_take]; omega
  unfold offK offO
  rw [take_snoc _ _ hlt, hv, hitI_snoc, hno]
  simp [he, hl]
/-- In a row that rises the first that is equal is the one itself. -/
theorem rise_ne {o : List Int} (h : o.Pairwise (· < ·)) {i j : Nat} {a b : Int} (hi : o[i]? = some a) (hj : o[j]? = some b) (hlt : i < j) : a ≠ b := by
  obtain ⟨h1, rfl⟩ := List.getElem?_eq_some_iff.1 hi
  obtain ⟨h2, rfl⟩ := List.getElem?_eq_some_iff.1 hj
  have := (List.pairwise_iff_getElem.1 h) i j h1 h2 hlt
  omega
end Go.Proofs.Ytmeeldcgmfplnaa
