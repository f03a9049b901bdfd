import Derived.Test.YtfcjpkigaagnaaaGreatDoorYtSo
set_option linter.unusedVariables false
namespace Go.Ev
open Go Go.RowKit Go.Proofs Go.Maps
def keyStr : Value → List UInt8
  | .string s => s.data.toList
  | _ => []
abbrev anyR : Value → Option (DataW Unit × List MemPlace) := fun _ => some (.nil, [])
theorem rd_str {P : Program} {k : TypeId} (hk : P.underlying k = some .string) {x : MapEntry} {s : ByteArray} (hx : x.key = .string s) (hs : s.size ≤ maxLen) : WideElems.rd P k anyR x = some (.string s.data.toList, .nil) := by
  simp [WideElems.rd, keyOf, hk, mapKey, hx, hs]
theorem owns_any {P : Program} {k : TypeId} (hk : P.underlying k = some .string) {w : World} {b clock : Nat} {es : Array MapEntry} (hb : w.heap[b]? = some (.map es clock)) (hst : MapKept.Stamped es clock) (hsz : es.size ≤ maxLen)
    (hkey : ∀ x ∈ es.toList, ∃ s : ByteArray, x.key = .string s ∧ s.size ≤ maxLen) :
    ∃ D : DataW Unit, w.ownsMap P k anyR b es.size D ∧ (strKeys D).Perm (es.toList.map fun x => keyStr x.key) ∧ Maps.size D = es.size := by
  have hrd : ∀ x ∈ es.toList, WideElems.rg P k anyR x = (.string (keyStr x.key), .nil) := fun x hx => by
    obtain ⟨s, h1, h2⟩ := hkey x hx
    rw [WideElems.rg_of (rd_str hk h1 h2), h1]; rfl
  refine ⟨_, ⟨es, clock, hb, ⟨hsz, hst, fun x hx => ?_⟩, Nat.le_refl _, rfl⟩, ?_, ?_⟩
  · obtain ⟨s, h1, h2⟩ := hkey x hx
    exact ⟨_, rd_str hk h1 h2⟩
  · show (((es.toList.map (WideElems.rg P k anyR)).foldr DataW.insert []).map fun p => strOf p.1).Perm _
    refine ((WideShapes.sorted_perm _).map _).trans ?_
    rw [List.map_map]
    refine List.Perm.of_eq (List.map_congr_left fun x hx => ?_)
    show strOf (WideElems.rg P k anyR x).1 = keyStr x.key
    rw [hrd x hx]; rfl
  · show ((es.toList.map (WideElems.rg P k anyR)).foldr DataW.insert []).length = es.size
    rw [(WideShapes.sorted_perm _).length_eq, List.length_map, Array.length_toList]
end Go.Ev
