/-
  A slice's argument, read as data.
-/
import Derived.Test.YtmeeldcgmfplnaaReads
set_option linter.unusedVariables false
set_option linter.unusedSimpArgs false
namespace Go.Proofs.Ytmeeldcgmfplnaa
open Go.ChangeShapes Go.WideShapes Go.ChangeAt Go.RowKit

theorem slice_of {α : Type} {k : Kn α} {bytes : Nat} {t e : TypeId} (ht : Try.prog.underlying t = some (.slice e)) (hR : Reads t (Kn.slice bytes k)) {H : Type} {enc : TypeId × Value → H} {w : World} {base : Nat} {spare : Nat → Bool} {held : Bool} {r : Reach} {b0 : Nat} {v : Value} {d : DataW H} {ps : List MemPlace}
    (hv : Value.okWide Try.prog w r b0 t v) (h : DataW.Trod enc Try.prog w base spare held t v d ps) (hw : ∀ n ∈ d.weights Try.prog t, n ≤ reachBytes) :
    ∃ (xs : List α) (A : Option Addr) (c : Nat), v = .slice A xs.length c ∧ Sl bytes k (fun _ => True) w A c xs := by
  obtain ⟨a, n, c, rfl⟩ := okWide_slice ht hv
  obtain ⟨fuel, hx⟩ := h
  obtain ⟨xs, A, c', e, h1, h2, h3, h4⟩ := hR enc w base spare held fuel _ _ hx hw
  have he : [Value.slice a n c] = [Value.slice A xs.length c'] := e
  injection he with he
  exact ⟨xs, A, c', he, h1, h2, h3, h4⟩
end Go.Proofs.Ytmeeldcgmfplnaa
