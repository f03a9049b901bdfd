/- PART EvS3 of a proof by an evaluator of the model that is proved sound. -/
import Derived.Test.YtkaeneplpelgeaaGreatDoorEvS2
set_option linter.unusedVariables false
set_option linter.unusedSimpArgs false
namespace Go.Ev
open Go Go.RowKit
section ops
variable {P : Program} {ω : Nat → Value} {B : Nat} {W0 : World} {μ : Mp} {w : World} {s s' : St} {call : FuncId → List Value → E Value} {ρ ρ' : Operand → Value}
theorem zeroCells_length (z : Array Value) (n : Nat) : (Builtin.zeroCells z n).toList.length = n * z.size := by
  simp [Builtin.zeroCells]
theorem doAppend_ok {ts : Array TypeId} {ty : TypeId} {a b a' b' v : Value} (hω : ∀ k, (ω k).oneCell' = true) (h : doAppend P ts a b s = some (v, s')) (ha : VR ω μ a a') (hb : VR ω μ b b') (hR : Rel ω B W0 μ s.heap w)
    (h4 : 4096 ≤ s.next) (hf : Fresh μ s.next s'.next) : Gives P (Builtin.append_ ts ty #[a', b']) w (Post ω B W0 μ s s' v) := by
  unfold doAppend at h
  obtain ⟨mm, hmm, hh⟩ := app h
  clear h
  split at hmm <;> subst hmm
  case h_2 => cases hh
  rename_i base n k
  obtain ⟨st, s1, h1, h2⟩ := bind_inv hh
  clear hh
  obtain ⟨hts, rfl⟩ := opt_inv h1
  obtain ⟨e, s2, h3, h5⟩ := bind_inv h2
  obtain ⟨he, rfl⟩ := opt_inv h3
  obtain ⟨i, s3, h6, h7⟩ := bind_inv h5
  obtain ⟨hi, rfl⟩ := opt_inv h6
  obtain ⟨zv, s4, h8, h9⟩ := bind_inv h7
  obtain ⟨hz, rfl⟩ := opt_inv h8
  obtain ⟨hg, h10⟩ := guard_inv h9
  simp only [Bool.or_eq_false_iff, Bool.not_eq_false'] at hg
  obtain ⟨⟨⟨⟨hg1, hg2⟩, hg3⟩, hg4⟩, hg5⟩ := hg
  have hg5 := Nat.eq_of_beq_eq_true hg5
  have hg3 : i.bytes ≠ 0 := by intro h; rw [h] at hg3; cases hg3
  have hg4 : i.bytes ≤ 1000 := by rw [ble_dec] at hg4; have := of_decide_eq_false hg4; omega
  obtain ⟨⟨m, new⟩, s5, h11, h12⟩ := bind_inv h10
  obtain ⟨rfl, hnl, hlen, us, hus, hfc⟩ := src_ok h11 hb hR
  have hu := sliceElem_inv he
  have hfw : (Builtin.firstCells i.size m b').run P w = .ok us.toArray w := by have := hfc w.drawn; exact this
  dsimp only at h12
  rcases cond_inv h12 with ⟨hm, h13⟩ | ⟨hm, h13⟩
  · -- nothing is appended
    have hm := Nat.eq_of_beq_eq_true hm
    subst hm
    obtain ⟨rfl, rfl⟩ := pure_inv h13
    have hnil : us = [] := by
      have h0 : us.length = 0 := by rw [← hus.1, hnl, Nat.zero_mul]
      exact List.length_eq_zero_iff.1 h0
    subst hnil
    have fin : ∀ (bs : Option Addr) (k' : Nat), a' = .slice bs n k' → n ≤ k' → Gives P (Builtin.append_ ts ty #[a', b']) w (Post ω B W0 μ s' s' (.slice base n k)) := by
      intro bs k' ea hk'
      refine Gives.of_run (append_in hts hu hi hg1 ea hlen hfw (by omega) (w' := w) ?_) ?_
      · cases bs <;> rfl
      · refine Post.same hR ?_
        rw [Nat.add_zero, ← ea]; exact ha
    cases ha with
    | sliceNil => exact fin none 0 rfl (Nat.le_refl _)
    | slice _ _ _ _ k' l hl hk hr => exact fin _ k' rfl hk
    | sliceEmpty => exact fin _ 0 rfl (Nat.le_refl _)
    | sliceZero => exact fin _ 0 rfl (Nat.le_refl _)
  · have hm0 : m ≠ 0 := by intro h; rw [h] at hm; cases hm
    obtain ⟨hg6, h14⟩ := guard_inv h13
    simp only [Bool.or_eq_false_iff, Bool.not_eq_false'] at hg6
    obtain ⟨hg6, hone⟩ := hg6
    have hnm : n + m < 1000000 := by rw [ble_dec] at hg6; have := of_decide_eq_false hg6; omega
    obtain ⟨old, s6, h15, h16⟩ := bind_inv h14
    obtain ⟨y, s7, h17, h18⟩ := bind_inv h16
    obtain ⟨rfl, rfl⟩ := nw_inv h17
    obtain ⟨rfl, rfl⟩ := pure_inv h18
    dsimp only at hf
    -- a new row
    have fresh : ∀ (s6 : St) (bs : Option Addr) (k' : Nat) (os : List Value), s6.next = s5.next → Rel ω B W0 μ s6.heap w → VRs ω μ old os → old.length = n * i.size → a' = .slice bs n k' → k' < n + m → μ s5.next = none →
        (∀ d, (Builtin.firstCells i.size n a').run P { w with drawn := d } = .ok os.toArray { w with drawn := d }) →
        Gives P (Builtin.append_ ts ty #[a', b']) w (Post ω B W0 μ s5 { heap := s6.heap.set s6.next (.cells (old ++ new) e), next := s6.next + 1, low := s6.low, mask := s6.mask } (.slice (some ⟨s6.next, 0, none⟩) (n + m) i.size)) := by
      intro s6 bs k' os hnx hR6 hos hol ea hk' hfr hfo
      obtain ⟨cap, hcap, hrun⟩ := append_new (ty := ty) (old := os) hts hu hi hz hg1 ea hlen hfc hfo hk' hnm hg3 hg4
      refine Gives.of_run hrun ?_
      have hp := newSlice_ok (s := s6) (w := { w with drawn := w.drawn + 1 }) (e := e) (e' := e) (c := old ++ new) (us := os ++ us) (rest := (Builtin.zeroCells zv.cells (cap - (n + m))).toList) (n := n + m) (k := cap) (z := i.size)
        (hR6.drawn _) (by rw [hnx]; exact h4) (by rw [hnx]; exact hfr) (hos.append hus) hcap (by
          rw [zeroCells_length, hg5, List.length_append, ← hos.1, ← hus.1, hol, hnl, ← Nat.add_mul, ← Nat.add_mul]
          exact Nat.mul_le_mul_right _ (by omega))
      have ea2 : (os ++ us ++ (Builtin.zeroCells zv.cells (cap - (n + m))).toList).toArray = os.toArray ++ us.toArray ++ Builtin.zeroCells zv.cells (cap - (n + m)) := by
        apply Array.toList_inj.1; simp
      rw [ea2] at hp
      obtain ⟨μ', q1, q2, q3⟩ := hp
      exact ⟨μ', by rw [hnx] at q1; rw [hnx]; exact q1, q2, q3⟩
    obtain ⟨mm, hmm, hh⟩ := app h15
    clear h15
    split at hmm <;> subst hmm
    · -- nil
      obtain ⟨hn0, h19⟩ := guard_inv' hh
      obtain ⟨rfl, rfl⟩ := pure_inv h19
      have hn0 := Nat.eq_of_beq_eq_true hn0
      subst hn0
      cases ha with
      | sliceNil => exact fresh s6 none 0 [] rfl hR VRs.nil (by simp) rfl (by omega) (hf _ (Nat.le_refl _) (by omega)) (fun d => rfl)
    · rename_i y off
      obtain ⟨⟨c, ce⟩, s8, h19, h20⟩ := bind_inv hh
      obtain ⟨rfl, hmk, hgy⟩ := rdCells_inv h19
      dsimp only at h20 hgy
      obtain ⟨hkz, h21⟩ := guard_inv' h20
      have hkz := Nat.eq_of_beq_eq_true hkz
      subst hkz
      obtain ⟨old', s9, h22, h23⟩ := bind_inv h21
      obtain ⟨htk, rfl⟩ := opt_inv h22
      obtain ⟨_, s10, h24, h25⟩ := bind_inv h23
      obtain ⟨rfl, hy4, _, _⟩ := wr_eq h24
      obtain ⟨rfl, rfl⟩ := pure_inv h25
      obtain ⟨htl, rfl⟩ := take_some htk
      obtain ⟨l0, hl0, ho⟩ := hR.cells hgy
      have hol : ((c.drop off).take (n * i.size)).length = n * i.size := by simp; omega
      cases ha with
      | sliceEmpty _ _ _ a0 =>
        refine fresh { heap := s9.heap.set y .dead, next := s9.next, low := _, mask := s9.mask } (some a0) 0 [] rfl (hR.kill y) ?_ hol rfl (by omega) (hf _ (Nat.le_refl _) (by dsimp only; omega)) (fun d => ?_)
        · simpa using VRs.nil
        · simp [Builtin.firstCells, loadCells_zero]
      | slice _ _ _ _ k' l hl hk hr =>
        have e0 : l0 = l := by rw [hl] at hl0; cases hl0; rfl
        subst e0
        obtain ⟨os, hos, hcell⟩ := ho.piece htl
        have hosl : os.length = n * i.size := by rw [← hos.1]; exact hol
        by_cases hfit : n + m ≤ k'
        · -- in place
          have hkz : n * i.size + m * i.size ≤ k' * i.size := by rw [← Nat.add_mul]; exact Nat.mul_le_mul_right _ hfit
          have husl : us.length = m * i.size := by rw [← hus.1]; exact hnl
          have hst := run_storeCells_cells (P := P) l0.blk (l0.off + off + n * i.size) us 0 w (fun j hj => ho.1.some (by omega)) (fun j hj => ho.1.free (by omega)) (ones hω hus hone)
          rw [Nat.add_zero] at hst
          refine Gives.of_run (append_in hts hu hi hg1 rfl hlen hfw hfit (w' := w.setCells l0.blk (l0.off + off + n * i.size) us) (by dsimp only; rw [addr_add]; exact hst)) ?_
          have hext : Ext μ (fun x => if x = s9.next then some ⟨l0.blk, l0.off + off, l0.room - off⟩ else μ x) s9.next (s9.next + 1) := Ext.one (hf _ (Nat.le_refl _) (by dsimp only; omega)) (Nat.le_refl _) (by omega)
          refine ⟨_, hext, ?_, ?_⟩
          · refine (hR.kill y).anew (l := ⟨l0.blk, l0.off + off, l0.room - off⟩) h4 (hf _ (Nat.le_refl _) (by dsimp only; omega)) (World.os_setCells _ _ _ _) (tape_setCells _ _ _ _) (World.output_setCells _ _ _ _) (by rw [size_setCells]; exact Nat.le_refl _)
              (show B ≤ l0.blk from hR.own y _ l0 hy4 hgy (by simp) hl) (fun b _ hb => heap_setCells _ _ _ _ _ hb) ?_ ?_
            · intro x p q hx hp hq hbl
              by_cases hxy : x = y
              · subst hxy; rw [T.get_set_self] at hx; cases hx; exact hp rfl
              · rw [T.get_set_ne _ _ hxy] at hx
                exact hxy (hR.inj x y p _ q l0 hx hp hgy (by simp) hq hl hbl)
            · have hrow := ho.1.setCells l0.blk us (l0.off + off + n * i.size)
              refine ⟨?_, ?_, ?_⟩
              · dsimp only
                rw [show l0.off + off + (l0.room - off) = l0.off + l0.room by omega]
                exact hrow
              · dsimp only; rw [List.length_append, hol, hnl]; omega
              · intro j v hv
                have hos' := hos.ext hext.1
                have hus' := hus.ext hext.1
                dsimp only
                rw [List.getElem?_append] at hv
                split at hv
                · rename_i hj
                  obtain ⟨u, hu1, hu2⟩ := hos'.get hv
                  refine ⟨u, ?_, hu2⟩
                  rw [World.cell?_setCells_out l0.blk us _ w ⟨l0.blk, l0.off + off + j, none⟩ (fun _ _ => by dsimp only; omega)]
                  exact hcell j u hu1
                · rename_i hj
                  obtain ⟨u, hu1, hu2⟩ := hus'.get hv
                  refine ⟨u, ?_, hu2⟩
                  have hjl : j - ((c.drop off).take (n * i.size)).length < us.length := (List.getElem?_eq_some_iff.1 hu1).1
                  have := World.cell?_setCells_in l0.blk us (l0.off + off + n * i.size) w (fun q hq => ho.1.some (by omega)) _ hjl
                  rw [show l0.off + off + n * i.size + (j - ((c.drop off).take (n * i.size)).length) = l0.off + off + j by omega] at this
                  rw [this, ← hu1, List.getElem?_eq_getElem hjl]
          · have := VR.slice (ω := ω) (μ := fun x => if x = s9.next then some ⟨l0.blk, l0.off + off, l0.room - off⟩ else μ x) s9.next 0 (n + m) i.size k' ⟨l0.blk, l0.off + off, l0.room - off⟩ (by simp) hfit (by dsimp only; omega)
            simpa using this
        · refine fresh { heap := s9.heap.set y .dead, next := s9.next, low := _, mask := s9.mask } _ k' os rfl (hR.kill y) hos hol rfl (by omega) (hf _ (Nat.le_refl _) (by dsimp only; omega)) (fun d => ?_)
          have hload := run_loadCells_list (P := P) { w with drawn := d } ⟨l0.blk, l0.off + off, none⟩ os (fun j v hv => by rw [Addr.add_mid]; exact hcell j v hv)
          rw [hosl] at hload
          exact hload
    · rename_i hno
      obtain ⟨hn0, h19⟩ := guard_inv' hh
      obtain ⟨rfl, rfl⟩ := pure_inv h19
      have hn0 := Nat.eq_of_beq_eq_true hn0
      subst hn0
      cases ha with
      | slice _ _ _ _ k' l hl hk hr => exact absurd rfl (hno _ _)
      | sliceEmpty _ _ _ a0 => exact absurd rfl (hno _ _)
      | sliceZero _ _ _ _ a0 => exact fresh s6 (some a0) 0 [] rfl hR VRs.nil (by simp) rfl (by omega) (hf _ (Nat.le_refl _) (by omega)) (fun d => by simp [Builtin.firstCells, loadCells_zero])
end ops
end Go.Ev
