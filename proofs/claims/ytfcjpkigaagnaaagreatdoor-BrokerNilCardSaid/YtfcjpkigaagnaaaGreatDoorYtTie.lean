/- PART: the tie of the listed variables to the program's text. -/
import Derived.Test.YtfcjpkigaagnaaaGreatDoorRows
import Derived.LaidByTextLater
import Derived.SevenTiedAt
import Derived.Test.YtfcjpkigaagnaaaGreatDoorYtTiea
import Derived.Test.YtfcjpkigaagnaaaGreatDoorYtTieb
import Derived.Test.YtfcjpkigaagnaaaGreatDoorYtTiec
import Derived.Test.YtfcjpkigaagnaaaGreatDoorYtTied
import Derived.Test.YtfcjpkigaagnaaaGreatDoorYtTiee
import Derived.Test.YtfcjpkigaagnaaaGreatDoorYtTief
import Derived.Test.YtfcjpkigaagnaaaGreatDoorYtTieg
import Derived.Test.YtfcjpkigaagnaaaGreatDoorYtTieh
import Derived.Test.YtfcjpkigaagnaaaGreatDoorYtTiei
namespace Go.Proofs.YtfcjpkigaagnaaaGreatDoor
open Go
theorem pin_laid_unicode_utf8_first : Tryz.pinned.checked.prog.pinnedFits "unicode/utf8.first" = true := by kernel_rfl
theorem noOwnUnsafe : Tryz.pinned.checked.prog.headLifts.contains "ownunsafe" = false := by kernel_rfl
theorem fits1 : Tryz.pinned.checked.prog.listedFits [("strconv.ErrSyntax", Rows.laid_strconv_ErrSyntax), ("strconv.ErrRange", Rows.laid_strconv_ErrRange), ("internal/strconv.uint64pow10", Rows.laid_internal_strconv_uint64pow10), ("math/bits.deBruijn32tab", Rows.laid_math_bits_deBruijn32tab), ("math/bits.deBruijn64tab", Rows.laid_math_bits_deBruijn64tab), ("unicode/utf8.first", Rows.laid_unicode_utf8_first), ("unicode/utf8.acceptRanges", Rows.laid_unicode_utf8_acceptRanges)] = true := by
  unfold Program.listedFits
  rw [noOwnUnsafe]
  kernel_rfl
theorem tie : Tryz.prog.laidByTextLater [("strconv.ErrSyntax", Rows.laid_strconv_ErrSyntax), ("strconv.ErrRange", Rows.laid_strconv_ErrRange), ("internal/strconv.uint64pow10", Rows.laid_internal_strconv_uint64pow10), ("math/bits.deBruijn32tab", Rows.laid_math_bits_deBruijn32tab), ("math/bits.deBruijn64tab", Rows.laid_math_bits_deBruijn64tab), ("unicode/utf8.acceptRanges", Rows.laid_unicode_utf8_acceptRanges)] [.sentinel, .sentinel, .data, .data, .data, .data] true :=
  Program.laidByTextLater_by_run 400 8 tieFact0 tieFact1 tieFact2 tieFact3 tieFact4 tieFact5 tieFact6 tieFact7 tieFact8
theorem brokerNil_row_tie : Rows.brokerNilRow.laidByTextAt .later Tryz.pinned [.sentinel, .sentinel, .data, .data, .data, .pinned, .data] true :=
  OpenClaim.laidByTextAt_pinned rfl rfl tie rfl rfl rfl rfl (fun y hy _e => by
    simp only [Rows.brokerNilRow, List.zip_cons_cons, List.zip_nil_right, List.mem_cons, List.mem_nil_iff, or_false] at hy
    rcases hy with rfl | rfl | rfl | rfl | rfl | rfl | rfl
    · cases _e
    · cases _e
    · cases _e
    · cases _e
    · cases _e
    · exact ⟨pin_laid_unicode_utf8_first, by kernel_rfl⟩
    · cases _e) fits1
theorem brokerNilUpto_row_tie : Rows.brokerNilUptoRow.laidByTextAt .later Tryz.pinned [.sentinel, .sentinel, .data, .data, .data, .pinned, .data] true :=
  OpenClaim.laidByTextAt_pinned rfl rfl tie rfl rfl rfl rfl (fun y hy _e => by
    simp only [Rows.brokerNilUptoRow, List.zip_cons_cons, List.zip_nil_right, List.mem_cons, List.mem_nil_iff, or_false] at hy
    rcases hy with rfl | rfl | rfl | rfl | rfl | rfl | rfl
    · cases _e
    · cases _e
    · cases _e
    · cases _e
    · cases _e
    · exact ⟨pin_laid_unicode_utf8_first, by kernel_rfl⟩
    · cases _e) fits1
end Go.Proofs.YtfcjpkigaagnaaaGreatDoor
