import Derived.Test.YtfcjpkigaagnaaaGreatDoorYtOw
set_option linter.unusedVariables false
namespace Go.Ev
open Go Go.RowKit Go.Proofs Go.Maps Go.Proofs.YtfcjpkigaagnaaaGreatDoor
/-- The keys, if all are strings that are not too long. -/
def strs? : List MapEntry → Option (List (List UInt8))
  | [] => some []
  | e :: es => match e.key with
    | .string s => bif Nat.blt s.size 1000000 then (strs? es).map (s.data.toList :: ·) else none
    | _ => none
def nodupS : List (List UInt8) → Bool
  | [] => true
  | a :: l => l.all (fun b => !(decide (a = b))) && nodupS l
noncomputable def natSorted : List Value → E Value
  | [.func (.func g) a c] =>
    bif Nat.beq g 205 && Nat.beq a.size 0 then
      match c.toList with
      | [.pointer (some ⟨x, 0, some _⟩)] => do
        let (cs, _) ← rdCells x
        match cs with
        | [.map (some r)] => do
          let (es, k) ← rdMap r
          let ks ← opt (strs? es)
          bif es.all (fun e => Nat.blt e.born k) && distinct (es.map (·.born)) && nodupS ks && Nat.blt es.length 1000000 then
            match ks with
            | [] => pure (.slice none 0 0)
            | _ => do
              let y ← nw (.cells ((sortS ks).map encStr) 9)
              pure (.slice (some ⟨y, 0, none⟩) ks.length 1)
          else fail
        | _ => fail
      | _ => fail
    else fail
  | _ => fail
theorem Fr.natSorted (vs : List Value) : Fr (Go.Ev.natSorted vs) := by
  unfold Go.Ev.natSorted
  (repeat' (first | exact Fr.pure _ | exact Fr.fail | exact Fr.opt _ | exact Fr.rdCells _ | exact Fr.rdMap _ | exact Fr.nw _ | apply Fr.cond | apply Fr.bind | intro _ | split))
theorem nodupS_nodup : ∀ l, nodupS l = true → l.Nodup
  | [], _ => List.nodup_nil
  | a :: l, h => by
    unfold nodupS at h
    rw [Bool.and_eq_true] at h
    refine List.nodup_cons.2 ⟨fun hm => ?_, nodupS_nodup l h.2⟩
    have := List.all_eq_true.1 h.1 a hm
    simp at this
theorem strs_spec : ∀ (es : List MapEntry) (ks : List (List UInt8)), strs? es = some ks → es.map (fun x => keyStr x.key) = ks ∧ ∀ x ∈ es, ∃ s : ByteArray, x.key = .string s ∧ s.size < 1000000
  | [], ks, h => by cases h; exact ⟨rfl, fun x hx => by cases hx⟩
  | e :: es, ks, h => by
    unfold strs? at h
    split at h
    · rename_i s hk
      cases hb : Nat.blt s.size 1000000 with
      | false => rw [hb] at h; cases h
      | true =>
        rw [hb] at h
        have h : (strs? es).map (s.data.toList :: ·) = some ks := h
        cases hs : strs? es with
        | none => rw [hs] at h; cases h
        | some ks' =>
          rw [hs] at h; cases h
          obtain ⟨h1, h2⟩ := strs_spec es ks' hs
          refine ⟨by rw [List.map_cons, h1, hk]; rfl, fun x hx => ?_⟩
          rcases List.mem_cons.1 hx with rfl | hx
          · exact ⟨s, hk, Nat.le_of_ble_eq_true hb⟩
          · exact h2 x hx
    · cases h
end Go.Ev
