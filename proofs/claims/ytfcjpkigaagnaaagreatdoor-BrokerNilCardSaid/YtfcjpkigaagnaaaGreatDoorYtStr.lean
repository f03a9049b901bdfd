/- PART: strings.Clone's contract at this program. -/
import Derived.Test.YtfcjpkigaagnaaaGreatDoorYtLay
set_option linter.unusedVariables false
namespace Go.Proofs
open Go Go.RowKit
theorem Tryz.clone_str (s : ByteArray) (w : World) (hs : s.size ≤ 281474976710656) : Calls Tryz.prog 420 #[.string s] w fun e w' => e = .returned (.string s) ∧ Below w.heap.size w w' :=
  AnyPu.stringslite_Clone Tryz.clone25 s w hs
end Go.Proofs
