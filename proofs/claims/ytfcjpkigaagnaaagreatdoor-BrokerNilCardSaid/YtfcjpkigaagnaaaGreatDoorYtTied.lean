/- PART: the tie of the listed variables, one of its closed facts. -/
import Derived.Test.YtfcjpkigaagnaaaGreatDoorRows
import Derived.LaidByTextLater
import Derived.SevenTiedAt
namespace Go.Proofs.YtfcjpkigaagnaaaGreatDoor
open Go
theorem tieFact3 : List.map (fun x => Tryz.prog.kindOfLater x.fst) ([("strconv.ErrSyntax", Rows.laid_strconv_ErrSyntax), ("strconv.ErrRange", Rows.laid_strconv_ErrRange), ("internal/strconv.uint64pow10", Rows.laid_internal_strconv_uint64pow10), ("math/bits.deBruijn32tab", Rows.laid_math_bits_deBruijn32tab), ("math/bits.deBruijn64tab", Rows.laid_math_bits_deBruijn64tab), ("unicode/utf8.acceptRanges", Rows.laid_unicode_utf8_acceptRanges)] : List (String × DataW Unit)) = List.map some ([.sentinel, .sentinel, .data, .data, .data, .data] : List LaidKind) := by kernel_rfl
end Go.Proofs.YtfcjpkigaagnaaaGreatDoor
