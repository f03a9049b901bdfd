import Derived.Test.YtfcjpkigaagnaaaGreatDoorYtNs
set_option linter.unusedVariables false
namespace Go.Ev
open Go Go.RowKit Go.Proofs Go.Maps Go.Proofs.YtfcjpkigaagnaaaGreatDoor
section
variable {ω : Nat → Value} {B : Nat} {W0 : World} {μ : Mp} {w : World}
set_option maxRecDepth 100000 in
theorem natSorted_ok : NatOk Tryz.prog ω B W0 123 natSorted := by
  intro vs s v s' h μ w ras hR hbd h4 hfr hvs
  unfold natSorted at h
  obtain ⟨mm, hmm, hh⟩ := app h
  clear h
  split at hmm <;> subst hmm
  case h_2 => cases hh
  rename_i g a c
  obtain ⟨hga, hi1⟩ := guard_inv' hh
  clear hh
  rw [Bool.and_eq_true] at hga
  have hg := Nat.eq_of_beq_eq_true hga.1
  have ha0 := Nat.eq_of_beq_eq_true hga.2
  subst hg
  obtain ⟨mm, hmm, hh⟩ := app hi1
  clear hi1
  split at hmm <;> subst hmm
  case h_2 => cases hh
  rename_i x sp hc
  obtain ⟨⟨cs, ce⟩, s1, h1, h2⟩ := bind_inv hh
  obtain ⟨rfl, hm, hgx⟩ := rdCells_inv h1
  dsimp only at h2 hgx
  clear hh
  obtain ⟨mm, hmm, hh⟩ := app h2
  clear h2
  split at hmm <;> subst hmm
  case h_2 => cases hh
  rename_i r
  obtain ⟨⟨es, k⟩, s2, h3, h5⟩ := bind_inv hh
  obtain ⟨rfl, hm2, hgr⟩ := rdMap_inv h3
  dsimp only at h5 hgr
  obtain ⟨ks, s3, h6, h7⟩ := bind_inv h5
  obtain ⟨hks, rfl⟩ := opt_inv h6
  obtain ⟨hchk, h8⟩ := guard_inv' h7
  simp only [Bool.and_eq_true] at hchk
  obtain ⟨⟨⟨hk1, hk2⟩, hk3⟩, hk4⟩ := hchk
  have hlen := hvs.1
  obtain ⟨d', rfl⟩ : ∃ d', ras = [d'] := by
    match ras, hlen with
    | [d'], _ => exact ⟨d', rfl⟩
  have hd : VR ω μ (.func (.func 205) a c) d' := hvs.2 0 _ _ rfl rfl
  cases hd with
  | func _ _ _ a' c' hsa hsc hav hcv =>
  have ea : a' = #[] := Array.eq_empty_of_size_eq_zero (by rw [← hsa, ha0])
  subst ea
  have ec : c = #[.pointer (some ⟨x, 0, some sp⟩)] := by apply Array.toList_inj.1; rw [hc]
  subst ec
  obtain ⟨p', hp'⟩ : ∃ p', c' = #[p'] := by
    have hl1 : c'.toList.length = 1 := by rw [Array.length_toList, ← hsc]; rfl
    match hcl : c'.toList, hl1 with
    | [p'], _ => exact ⟨p', by apply Array.toList_inj.1; rw [hcl]⟩
  subst hp'
  have hp := hcv 0 _ _ rfl rfl
  cases hp with
  | box _ _ l hl hl00 =>
  obtain ⟨l0, hl0, ho⟩ := hR.cells hgx
  have e0 : l0 = l := by rw [hl] at hl0; cases hl0; rfl
  subst e0
  obtain ⟨u, hu, hv⟩ := ho.2.2 0 _ rfl
  rw [hl00] at hu
  cases hv with
  | map _ lm hlm =>
  obtain ⟨lm', es', hlm', hbm, hers⟩ := hR.map hgr
  have e1 : lm' = lm := by rw [hlm] at hlm'; cases hlm'; rfl
  subst e1
  have hpt : ∀ i, i < es.length → ∃ e e', es[i]? = some e ∧ es'.toList[i]? = some e' ∧ e.key = e'.key ∧ e.born = e'.born := by
    intro i hi
    have hi' : i < es'.toList.length := by rw [← hers.1]; exact hi
    have := hers.2 i _ _ (List.getElem?_eq_getElem hi) (List.getElem?_eq_getElem hi')
    exact ⟨_, _, List.getElem?_eq_getElem hi, List.getElem?_eq_getElem hi', this.1, this.2.1⟩
  have hmap : ∀ {β : Type} (f : MapEntry → β), (∀ e e' : MapEntry, e.key = e'.key → e.born = e'.born → f e' = f e) → es'.toList.map f = es.map f := by
    intro β f hf
    refine List.ext_getElem? fun i => ?_
    rw [List.getElem?_map, List.getElem?_map]
    by_cases hi : i < es.length
    · obtain ⟨e, e', q1, q2, q3, q4⟩ := hpt i hi
      rw [q1, q2, Option.map_some, Option.map_some, hf e e' q3 q4]
    · have hle := hers.1
      rw [List.getElem?_eq_none (by omega : es'.toList.length ≤ i), List.getElem?_eq_none (by omega : es.length ≤ i)]
  obtain ⟨hkeys, hstr⟩ := strs_spec es ks hks
  have hkeys' : es'.toList.map (fun x => keyStr x.key) = ks := by rw [hmap _ (fun e e' h _ => by rw [h]), hkeys]
  have hmem : ∀ x ∈ es'.toList, ∃ e ∈ es, e.key = x.key ∧ e.born = x.born := by
    intro x hx
    obtain ⟨i, hi, hxi⟩ := List.getElem_of_mem hx
    obtain ⟨e, e', q1, q2, q3, q4⟩ := hpt i (by rw [hers.1]; exact hi)
    rw [List.getElem?_eq_getElem hi, hxi] at q2
    cases q2
    exact ⟨e, List.mem_of_getElem? q1, q3, q4⟩
  have hst : MapKept.Stamped es' k := by
    refine ⟨fun x hx => ?_, ?_, ?_⟩
    · obtain ⟨e, he, _, hb⟩ := hmem x hx
      have := Nat.le_of_ble_eq_true (List.all_eq_true.1 hk1 e he)
      omega
    · rw [hmap (·.born) (fun e e' _ h => h.symm)]; exact distinct_nodup _ hk2
    · have := nodupS_nodup ks hk3
      rw [← hkeys'] at this
      rw [show (fun x : MapEntry => keyStr x.key) = keyStr ∘ (·.key) from rfl, ← List.map_map] at this
      exact List.Pairwise.of_map keyStr (fun a b hab e => hab (by rw [e])) this
  have hML : 1000000 ≤ maxLen := by decide
  have hszl : es.length < 1000000 := Nat.le_of_ble_eq_true hk4
  have hsz : es'.size < 1000000 := by rw [← Array.length_toList, ← hers.1]; exact hszl
  obtain ⟨D, hown, hperm, hDsz⟩ := owns_any (k := 9) Tryz.underlying9 hbm hst (Nat.le_trans (Nat.le_of_lt hsz) hML) (fun x hx => by
    obtain ⟨e, he, hk, _⟩ := hmem x hx
    obtain ⟨st, h1, h2⟩ := hstr e he
    exact ⟨st, by rw [← hk, h1], Nat.le_trans (Nat.le_of_lt h2) hML⟩)
  rw [hkeys'] at hperm
  have hBm : l0.blk < w.heap.size := hR.blk_lt hgx (by simp) hl
  have hcalls := callsIn_wide.1 (Tryz.sorted_at l0.blk lm'.blk es'.size D anyR w hBm (by simpa using hu) hown (by rw [hDsz]; exact Nat.le_trans (Nat.le_of_lt hsz) hML) (by rw [hDsz]; omega))
  refine callR_enter Tryz.func123 (by kernel_rfl) (by rfl) (hcalls.mono fun e w' ⟨vr, ss, he, hss, hrow, hnil, hbel⟩ => ?_)
  subst he
  have hsk : ss.Perm ks := hss.trans hperm
  rw [sortS_eq hsk] at hrow
  have hboth : ∀ b, b < w.heap.size → w'.heap[b]? = w.heap[b]? := fun b hb => hbel.block b hb
  cases hks0 : ks with
  | nil =>
    rw [hks0] at h8 hsk
    obtain ⟨rfl, rfl⟩ := pure_inv h8
    have : ss = [] := hsk.eq_nil
    rw [hnil.2 this]
    exact ⟨μ, Ext.refl _ _ _, hR.more hbel.os hbel.tape hbel.output hbel.size hboth, .sliceNil⟩
  | cons k0 ks1 =>
    have h8' : (do
        let y ← nw (.cells ((sortS ks).map encStr) 9)
        pure (.slice (some ⟨y, 0, none⟩) ks.length 1) : E Value) s3 = some (v, s') := by
      rw [hks0] at h8 ⊢
      exact h8
    obtain ⟨y, s4, h9, h10⟩ := bind_inv h8'
    obtain ⟨rfl, rfl⟩ := nw_inv h9
    obtain ⟨rfl, rfl⟩ := pure_inv h10
    have hssl : ss.length = ks.length := hsk.length_eq
    have hfresh : μ s3.next = none := hfr s3.next (Nat.le_refl _) (Nat.lt_succ_self _)
    obtain ⟨hl1, hr1⟩ := hrow
    rcases hr1 with ⟨hv0, hn0⟩ | ⟨g, cap, cur, rfl, hg, hcur, hcap, hcapm, hcsz, htake⟩
    · exfalso
      rw [hssl, hks0] at hn0
      simp at hn0
    · rw [Nat.mul_one] at htake hcsz
      have hnewo : ∀ μ' : Mp, ObjR ω μ' w' ⟨g, 0, cap⟩ (.cells ((sortS ks).map encStr) 9) := by
        intro μ'
        refine ⟨⟨cur, 9, 0, 0, hcur, by simpa using hcsz, .inl rfl⟩, ?_, fun i x hx => ?_⟩
        · dsimp only
          rw [List.length_map, (sortS_perm ks).length_eq, ← hssl]; exact hcap
        · refine ⟨x, ?_, ?_⟩
          · rw [← htake, List.getElem?_take] at hx
            split at hx
            · simp only [World.cell?, hcur, Nat.zero_add]
              simpa using hx
            · cases hx
          · obtain ⟨b, _, rfl⟩ := List.mem_map.1 (List.mem_of_getElem? hx)
            exact .string _
      have hrel := hR.anew (w' := w') (x := s3.next) (o := .cells ((sortS ks).map encStr) 9) (l := ⟨g, 0, cap⟩) h4 hfresh hbel.os hbel.tape hbel.output hbel.size (Nat.le_trans hR.size hg) (fun b hb _ => hboth b hb)
        (fun y p k hy hp hk e => by have := hR.blk_lt hy hp hk; rw [e] at this; exact absurd this (by dsimp only; omega)) (hnewo _)
      refine ⟨_, Ext.one hfresh (Nat.le_refl _) (Nat.lt_succ_self _), hrel, ?_⟩
      rw [hssl]
      exact .slice s3.next 0 ks.length 1 cap ⟨g, 0, cap⟩ (by simp) (by rw [← hssl]; exact hcap) (by dsimp only; omega)
end
end Go.Ev
