import Derived.Test.YtfcjpkigaagnaaaGreatDoorYtU2
import Derived.Test.YtfcjpkigaagnaaaGreatDoorYtIter
set_option linter.unusedVariables false
namespace Go.Ev
open Go Go.RowKit Go.Proofs Go.Proofs.YtfcjpkigaagnaaaGreatDoor
noncomputable def natKeys : List Value → E Value
  | [.map m] => do
    let y ← nw (.cells [.map m] 67)
    pure (.func (.func 205) #[] #[.pointer (some ⟨y, 0, some 0⟩)])
  | _ => fail
theorem Fr.natKeys (vs : List Value) : Fr (Go.Ev.natKeys vs) := by
  unfold Go.Ev.natKeys
  (repeat' (first | exact Fr.pure _ | exact Fr.fail | exact Fr.nw _ | apply Fr.bind | intro _ | split))
section
variable {P : Program} {ω : Nat → Value} {B : Nat} {W0 : World} {μ : Mp} {w : World}
set_option maxRecDepth 100000 in
theorem natKeys_ok : NatOk Tryz.prog ω B W0 124 natKeys := by
  intro vs s v s' h μ w ras hR hbd h4 hfr hvs
  unfold natKeys at h
  obtain ⟨mm, hmm, hh⟩ := app h
  clear h
  split at hmm <;> subst hmm
  case h_2 => cases hh
  rename_i mo
  obtain ⟨y, s2, h3, h5⟩ := bind_inv hh
  have h3 : some (s.next, ({ heap := s.heap.set s.next (.cells [.map mo] 67), next := Nat.succ s.next, low := s.low, mask := s.mask } : St)) = some (y, s2) := h3
  cases h3
  obtain ⟨rfl, rfl⟩ := pure_inv h5
  have hlen := hvs.1
  obtain ⟨d', rfl⟩ : ∃ d', ras = [d'] := by
    match ras, hlen with
    | [d'], _ => exact ⟨d', rfl⟩
  have hd : VR ω μ (.map mo) d' := hvs.2 0 _ _ rfl rfl
  obtain ⟨mo', rfl⟩ : ∃ mo', d' = .map mo' := by cases hd <;> exact ⟨_, rfl⟩
  have hfresh : μ s.next = none := hfr s.next (Nat.le_refl _) (Nat.lt_succ_self _)
  refine callR_enter Tryz.func124 (by kernel_rfl) (by rfl) ((callsIn_wide.1 (Tryz.maps_Keys_44 mo' w)).mono fun e w' ⟨he, hw⟩ => ?_)
  subst he; subst hw
  obtain ⟨μ', h1, h2, h3⟩ := nw_ok (R := .cells #[.map mo'] 67) (room := 1) (o := .cells [.map mo] 67) hR h4 hfresh (fun μ' hμ' => ObjR.newCells (c := [.map mo]) (u := [.map mo']) (e := 67) (e' := 67) (room := 1) (VRs.cons (hd.ext hμ') VRs.nil) (rest := []) rfl)
  refine ⟨μ', h1, h2, ?_⟩
  refine .func _ _ _ _ _ rfl rfl (fun i v v' e => by simp at e) (fun i v v' e e' => ?_)
  cases i with
  | zero =>
    simp only [List.getElem?_toArray, List.getElem?_cons_zero, Option.some.injEq] at e e'
    subst e; subst e'
    exact .box _ _ _ h3 rfl
  | succ i => simp at e
end
end Go.Ev
