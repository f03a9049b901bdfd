/- PART: the tie of the listed variables, one of its closed facts. -/
import Derived.Test.YtfcjpkigaagnaaaGreatDoorRows
import Derived.LaidByTextLater
import Derived.SevenTiedAt
namespace Go.Proofs.YtfcjpkigaagnaaaGreatDoor
open Go
theorem tieFact5 : varsNamedLaterB Tryz.prog (varsId Tryz.prog) ([("strconv.ErrSyntax", Rows.laid_strconv_ErrSyntax), ("strconv.ErrRange", Rows.laid_strconv_ErrRange), ("internal/strconv.uint64pow10", Rows.laid_internal_strconv_uint64pow10), ("math/bits.deBruijn32tab", Rows.laid_math_bits_deBruijn32tab), ("math/bits.deBruijn64tab", Rows.laid_math_bits_deBruijn64tab), ("unicode/utf8.acceptRanges", Rows.laid_unicode_utf8_acceptRanges)] : List (String × DataW Unit)) = true := by kernel_rfl
end Go.Proofs.YtfcjpkigaagnaaaGreatDoor
