/- The law InquiryLong: part Tg. -/
import Derived.Test.YtcbeheaiblgpfaaGreatDoorRows
import Derived.LaidByTextLater
import Derived.LaidOnce
import Derived.KernelRfl
import Derived.Test.YtcbeheaiblgpfaaGreatDoorQTa
set_option linter.unusedVariables false
set_option linter.unusedSimpArgs false
noncomputable section
namespace Go.Proofs.YtcbeheaiblgpfaaGreatDoor
open Go
set_option maxRecDepth 100000
theorem caq : varsNamedLaterB Tryz.prog (varsId Tryz.prog) ([("math/bits.deBruijn32tab", Rows.laid_math_bits_deBruijn32tab), ("math/bits.deBruijn64tab", Rows.laid_math_bits_deBruijn64tab), ("internal/strconv.uint64pow10", Rows.laid_internal_strconv_uint64pow10), ("unicode/utf8.acceptRanges", Rows.laid_unicode_utf8_acceptRanges), ("strconv.ErrRange", Rows.laid_strconv_ErrRange), ("strconv.ErrSyntax", Rows.laid_strconv_ErrSyntax)] : List (String × DataW Unit)) = true := by
 rw [eaq]
 kernel_rfl
end Go.Proofs.YtcbeheaiblgpfaaGreatDoor
end
