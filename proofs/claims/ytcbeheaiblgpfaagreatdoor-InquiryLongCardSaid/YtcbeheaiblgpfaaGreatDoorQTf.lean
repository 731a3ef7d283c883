/- The law InquiryLong: part Tf. -/
import Derived.Test.YtcbeheaiblgpfaaGreatDoorRows
import Derived.LaidByTextLater
import Derived.LaidOnce
import Derived.KernelRfl
import Derived.Test.YtcbeheaiblgpfaaGreatDoorQTa
set_option linter.unusedVariables false
set_option linter.unusedSimpArgs false
noncomputable section
namespace Go.Proofs.YtcbeheaiblgpfaaGreatDoor
open Go
set_option maxRecDepth 100000
theorem saI (os : Os) (tape : Tape) : doorLeaves Tryz.prog 72 8 65 ([("math/bits.deBruijn32tab", Rows.laid_math_bits_deBruijn32tab), ("math/bits.deBruijn64tab", Rows.laid_math_bits_deBruijn64tab), ("internal/strconv.uint64pow10", Rows.laid_internal_strconv_uint64pow10), ("unicode/utf8.acceptRanges", Rows.laid_unicode_utf8_acceptRanges), ("strconv.ErrRange", Rows.laid_strconv_ErrRange), ("strconv.ErrSyntax", Rows.laid_strconv_ErrSyntax)] : List (String × DataW Unit)) os tape = some (([("math/bits.deBruijn32tab", Rows.laid_math_bits_deBruijn32tab), ("math/bits.deBruijn64tab", Rows.laid_math_bits_deBruijn64tab), ("internal/strconv.uint64pow10", Rows.laid_internal_strconv_uint64pow10), ("unicode/utf8.acceptRanges", Rows.laid_unicode_utf8_acceptRanges), ("strconv.ErrRange", Rows.laid_strconv_ErrRange), ("strconv.ErrSyntax", Rows.laid_strconv_ErrSyntax)] : List (String × DataW Unit)).filter (fun x => x.2.handleName?.isNone), (funcsListed ([("math/bits.deBruijn32tab", Rows.laid_math_bits_deBruijn32tab), ("math/bits.deBruijn64tab", Rows.laid_math_bits_deBruijn64tab), ("internal/strconv.uint64pow10", Rows.laid_internal_strconv_uint64pow10), ("unicode/utf8.acceptRanges", Rows.laid_unicode_utf8_acceptRanges), ("strconv.ErrRange", Rows.laid_strconv_ErrRange), ("strconv.ErrSyntax", Rows.laid_strconv_ErrSyntax)] : List (String × DataW Unit))).map (·.2.funcsOut)) := by
 unfold doorLeaves
 rw [eaq]
 kernel_rfl
end Go.Proofs.YtcbeheaiblgpfaaGreatDoor
end
