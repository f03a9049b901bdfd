/- PART EvQA of a proof by an evaluator of the model that is proved sound. -/
import Derived.Test.YtkaeneplpelgeaaGreatDoorEvQ9
set_option linter.unusedVariables false
set_option linter.unusedSimpArgs false
namespace Go.Ev
open Go Go.RowKit
section ops
variable {P : Program} {ω : Nat → Value} {B : Nat} {W0 : World} {μ : Mp} {w : World} {s s' : St} {call : FuncId → List Value → E Value} {ρ ρ' : Operand → Value}
theorem run_getIter {r : Nat} {m : Option Nat} {a b : Nat} {c : Array Nat} (h : w.heap[r]? = some (.mapIter m a c b)) : (getObj r).run P w = .ok (.mapIter m a c b) w := by
  simp only [getObj, Sem.run, h]
theorem filter_toList (es : Array MapEntry) (p : MapEntry → Bool) : (es.filter p).toList = es.toList.filter p := by simp
theorem arr_of_list {α : Type} {a : Array α} {l : List α} (h : a.toList = l) : a = l.toArray := by rw [← h]
theorem ERs.one {e : MapEntry} {b : List MapEntry} (h : ERs ω μ [e] b) : ∃ e', b = [e'] ∧ e.key = e'.key ∧ e.born = e'.born ∧ VR ω μ e.val e'.val := by
  match b, h with
  | [e'], h => exact ⟨e', rfl, h.2 0 e e' rfl rfl⟩
  | [], h => have := h.1; simp at this
  | _ :: _ :: _, h => have := h.1; simp at this
theorem ERs.zero {b : List MapEntry} (h : ERs ω μ [] b) : b = [] := List.length_eq_zero_iff.1 h.1.symm
theorem run_next {r m since last clock : Nat} {seen : Array Nat} {es : Array MapEntry} {ty : TypeId} (hb : w.heap[r]? = some (.mapIter (some m) since seen last)) (hm : w.heap[m]? = some (.map es clock))
    (hc : (!seen.isEmpty && !es.isEmpty && es.all (·.born ≥ last)) = false) {old new : List MapEntry}
    (ho : (es.filter fun e => !seen.contains e.born).filter (·.born < since) = old.toArray) (hn : (es.filter fun e => !seen.contains e.born).filter (·.born ≥ since) = new.toArray) :
    (old = [] → new = [] → (Instr.next (.pointer (some ⟨r, 0, none⟩)) false ty).run P w = .ok (.tuple #[.bool false]) w) ∧
    (∀ e, old = [e] → new = [] → (Instr.next (.pointer (some ⟨r, 0, none⟩)) false ty).run P w = .ok (.tuple #[.bool true, e.key, e.val]) { w with heap := w.heap.setIfInBounds r (.mapIter (some m) since (seen.push e.born) clock) }) := by
  constructor
  · intro e1 e2
    subst e1; subst e2
    unfold Instr.next
    refine (Sem.run_bind P w (getObj r) _).trans ?_
    rw [run_getIter hb, Result.andThen_ok]
    dsimp only
    rw [Sem.run_bind, run_getMap hm, Result.andThen_ok]
    dsimp only
    rw [hc]
    simp only [Bool.false_eq_true, if_false]
    rw [ho, hn]
    have c1 : ((if (([] : List MapEntry).toArray).isEmpty = true then #[none] else #[]) ++ Array.map some (([] : List MapEntry).toArray ++ ([] : List MapEntry).toArray) : Array (Option MapEntry)) = #[none] := by simp
    rw [c1]
    simp only [Sem.run_bind, run_choose]
    rfl
  · intro e e1 e2
    subst e1; subst e2
    unfold Instr.next
    refine (Sem.run_bind P w (getObj r) _).trans ?_
    rw [run_getIter hb, Result.andThen_ok]
    dsimp only
    rw [Sem.run_bind, run_getMap hm, Result.andThen_ok]
    dsimp only
    rw [hc]
    simp only [Bool.false_eq_true, if_false]
    rw [ho, hn]
    have c2 : ((if ([e].toArray : Array MapEntry).isEmpty = true then #[none] else #[]) ++ Array.map some ([e].toArray ++ ([] : List MapEntry).toArray) : Array (Option MapEntry)) = #[some e] := by simp
    rw [c2]
    simp only [Sem.run_bind, run_choose]
    rw [if_pos (by rfl)]
    simp only [Result.andThen_ok]
    rw [show (#[some e] : Array (Option MapEntry))[0]? = some (some e) from rfl]
    dsimp only
    rw [Sem.run_bind, run_set (P := P) hb (by simp), Result.andThen_ok]
    rfl
theorem armNext_ok {x : Operand} {b : Bool} {ty : TypeId} {v : Value} (h : armNext x b P call ρ s = some (v, s')) (hρ : ∀ x, VR ω μ (ρ x) (ρ' x)) (hR : Rel ω B W0 μ s.heap w) :
    Gives P (Instr.next (ρ' x) b ty) w (Post ω B W0 μ s s' v) := by
  unfold armNext at h
  obtain ⟨⟨r, o⟩, s1, h1, h2⟩ := bind_inv h
  obtain ⟨hp, rfl⟩ := opt_inv h1
  dsimp only at h2
  obtain ⟨ob, s2, h4, h3⟩ := bind_inv h2
  obtain ⟨rfl, hm, hgo, hd⟩ := rd_eq h4
  obtain ⟨hg, h5⟩ := guard_inv h3
  simp only [Bool.or_eq_false_iff, Bool.not_eq_false'] at hg
  obtain ⟨rfl, ho⟩ := hg
  have ho := Nat.eq_of_beq_eq_true ho
  subst ho
  have hx := hρ x
  rw [place_inv hp] at hx
  generalize ρ' x = u at hx ⊢
  cases hx with
  | ptr _ _ l hl =>
  obtain ⟨l0, hl0, hob⟩ := hR.obj r ob hgo hd
  have e0 : l0 = l := by rw [hl] at hl0; cases hl0; rfl
  subst e0
  obtain ⟨mm, hmm, hh⟩ := app h5
  clear h5
  split at hmm <;> subst hmm
  · obtain ⟨hz, m', hb, hmt⟩ := hob
    obtain ⟨rfl, rfl⟩ := pure_inv hh
    cases m' with
    | some r' => exact hmt.elim
    | none =>
      refine Gives.of_run (a := .tuple #[.bool false]) (w' := w) ?_ (Post.same hR (VR.tuple_of (VRs.cons (.bool false) VRs.nil)))
      rw [hz]
      unfold Instr.next
      refine (Sem.run_bind P w (getObj l0.blk) _).trans ?_
      rw [run_getIter hb]
      rfl
  · rename_i m since seen last
    obtain ⟨hz, m', hb, hmt⟩ := hob
    obtain ⟨⟨es, clock⟩, s3, h6, h7⟩ := bind_inv hh
    obtain ⟨rfl, hmk, hgm⟩ := rdMap_inv h6
    dsimp only at h7 hgm
    obtain ⟨lm, es', hlm, hbm, hers⟩ := hR.map hgm
    cases m' with
    | none => exact hmt.elim
    | some r' =>
    obtain ⟨k, hk, hkb⟩ := hmt
    have e1 : k = lm := by rw [hk] at hlm; cases hlm; rfl
    subst e1
    subst hkb
    obtain ⟨hg2, h8⟩ := guard_inv h7
    rw [hz]
    have hc : (!seen.toArray.isEmpty && !es'.isEmpty && es'.all (·.born ≥ last)) = false := by
      rw [← hg2]
      congr 1
      · congr 1
        · simp
        · have := hers.1
          have e2 : es'.isEmpty = es.isEmpty := by
            rw [← Array.isEmpty_toList]
            cases es <;> cases hq : es'.toList <;> first | rfl | (rw [hq] at this; simp at this)
          rw [e2]
      · rw [← Array.all_toList]
        have := all_ERs hers (fun b => Nat.ble last b)
        rw [this]
        congr 1
        funext e
        rw [ble_dec]
    have hleft := filter_ERs hers (fun b => !(among seen b))
    have hold := filter_ERs hleft (fun b => Nat.ble (Nat.succ b) since)
    have hnew := filter_ERs hleft (fun b => Nat.ble since b)
    have eo : ((es'.filter fun e => !seen.toArray.contains e.born).filter (·.born < since)).toList = (es'.toList.filter fun e => !(among seen e.born)).filter fun e => Nat.ble (Nat.succ e.born) since := by
      rw [filter_toList, filter_toList]
      congr 1
      · funext e; rw [ble_dec]; rfl
      · congr 1; funext e; rw [among_contains]
    have en : ((es'.filter fun e => !seen.toArray.contains e.born).filter (·.born ≥ since)).toList = (es'.toList.filter fun e => !(among seen e.born)).filter fun e => Nat.ble since e.born := by
      rw [filter_toList, filter_toList]
      congr 1
      · funext e; rw [ble_dec]
      · congr 1; funext e; rw [among_contains]
    obtain ⟨n1, n2⟩ := run_next (P := P) (ty := ty) hb hbm hc (arr_of_list eo) (arr_of_list en)
    obtain ⟨mm, hmm, hh⟩ := app h8
    clear h8
    split at hmm <;> subst hmm
    · rename_i h9 h10
      obtain ⟨rfl, rfl⟩ := pure_inv hh
      rw [h9] at hold; rw [h10] at hnew
      exact Gives.of_run (n1 hold.zero hnew.zero) (Post.same hR (VR.tuple_of (VRs.cons (.bool false) VRs.nil)))
    · rename_i e h9 h10
      obtain ⟨hfk, h11⟩ := guard_inv hh
      obtain ⟨_, s4, h12, h13⟩ := bind_inv h11
      obtain ⟨rfl, h4096, _, _⟩ := wr_eq h12
      obtain ⟨rfl, rfl⟩ := pure_inv h13
      rw [h9] at hold; rw [h10] at hnew
      obtain ⟨e', he, hk1, hb1, hv1⟩ := hold.one
      refine Gives.of_run (n2 e' he hnew.zero) ?_
      refine ⟨μ, Ext.refl _ _ _, ?_, ?_⟩
      · refine hR.setObj h4096 hgo hd hl hb ⟨hz, some k.blk, ?_, ⟨k, hk, rfl⟩⟩
        dsimp only
        rw [heap_set_self hb]
        rw [hb1]
        simp
      · rw [← hk1]
        exact VR.tuple_of (VRs.cons (.bool true) (VRs.cons (VR.refl_flat (by simpa using hfk)) (VRs.cons hv1 VRs.nil)))
    · cases hh
  · cases hh
theorem armEntry_ok {x : Operand} {v : Value} (h : armEntry x P call ρ s = some (v, s')) (hρ : ∀ x, VR ω μ (ρ x) (ρ' x)) (hR : Rel ω B W0 μ s.heap w) :
    Gives P (Instr.entry (ρ' x)) w (Post ω B W0 μ s s' v) := by
  unfold armEntry at h
  obtain ⟨⟨r, o⟩, s1, h1, h2⟩ := bind_inv h
  obtain ⟨hp, rfl⟩ := opt_inv h1
  dsimp only at h2
  obtain ⟨ob, s2, h4, h3⟩ := bind_inv h2
  obtain ⟨rfl, hm, hgo, hd⟩ := rd_eq h4
  obtain ⟨hg, h5⟩ := guard_inv h3
  have ho : o = 0 := Nat.eq_of_beq_eq_true (by cases hq : Nat.beq o 0 with | true => rfl | false => rw [hq] at hg; cases hg)
  subst ho
  have hx := hρ x
  rw [place_inv hp] at hx
  generalize ρ' x = u at hx ⊢
  cases hx with
  | ptr _ _ l hl =>
  obtain ⟨l0, hl0, hob⟩ := hR.obj r ob hgo hd
  have e0 : l0 = l := by rw [hl] at hl0; cases hl0; rfl
  subst e0
  obtain ⟨mm, hmm, hh⟩ := app h5
  clear h5
  split at hmm <;> subst hmm
  · rename_i m since seen last
    obtain ⟨hz, m', hb, hmt⟩ := hob
    obtain ⟨st, s3, h6, h7⟩ := bind_inv hh
    obtain ⟨hst, rfl⟩ := opt_inv h6
    obtain ⟨⟨es, clock⟩, s4, h8, h9⟩ := bind_inv h7
    obtain ⟨rfl, hmk, hgm⟩ := rdMap_inv h8
    dsimp only at h9 hgm
    obtain ⟨hg2, h10⟩ := guard_inv h9
    have hcl := Nat.eq_of_beq_eq_true (by cases hq : Nat.beq clock last with | true => rfl | false => rw [hq] at hg2; cases hg2)
    obtain ⟨e, s5, h11, h12⟩ := bind_inv h10
    obtain ⟨hfe, rfl⟩ := opt_inv h11
    obtain ⟨hfk, h13⟩ := guard_inv' h12
    obtain ⟨rfl, rfl⟩ := pure_inv h13
    obtain ⟨lm, es', hlm, hbm, hers⟩ := hR.map hgm
    cases m' with
    | none => exact hmt.elim
    | some r' =>
    obtain ⟨k, hk, hkb⟩ := hmt
    have e1 : k = lm := by rw [hk] at hlm; cases hlm; rfl
    subst e1
    subst hkb
    subst hcl
    have hfind : ∀ {a b : List MapEntry}, ERs ω μ a b → a.find? (fun e => Nat.beq e.born st) = some e → ∃ e', b.find? (·.born == st) = some e' ∧ e.key = e'.key ∧ VR ω μ e.val e'.val := by
      intro a
      induction a with
      | nil => intro b _ h; cases h
      | cons e1 a ih =>
        intro b hab h
        cases b with
        | nil => have := hab.1; simp at this
        | cons e2 b =>
          obtain ⟨⟨q1, q2, q3⟩, q4⟩ := hab.tail
          rw [List.find?_cons] at h ⊢
          have hbe : (e2.born == st) = Nat.beq e1.born st := by rw [← q2, beq_dec]; rfl
          rw [hbe]
          cases hbb : Nat.beq e1.born st with
          | true => rw [hbb] at h; cases h; exact ⟨e2, rfl, q1, q3⟩
          | false => rw [hbb] at h; exact ih q4 h
    obtain ⟨e', he', hke, hve⟩ := hfind hers hfe
    rw [hz]
    refine Gives.of_run (a := .tuple #[e'.key, e'.val]) (w' := w) ?_ (Post.same hR ?_)
    · unfold Instr.entry
      refine (Sem.run_bind P w (getObj l0.blk) _).trans ?_
      rw [run_getIter hb, Result.andThen_ok]
      dsimp only
      have hbk : seen.toArray.back? = some st := by simpa using hst
      rw [hbk]
      dsimp only
      rw [Sem.run_bind, run_getMap hbm, Result.andThen_ok]
      have hfa : es'.find? (·.born == st) = some e' := by rw [← Array.find?_toList]; exact he'
      simp [hfa]
    · rw [← hke]
      exact VR.tuple_of (VRs.cons (VR.refl_flat hfk) (VRs.cons hve VRs.nil))
  · cases hh
end ops
end Go.Ev
