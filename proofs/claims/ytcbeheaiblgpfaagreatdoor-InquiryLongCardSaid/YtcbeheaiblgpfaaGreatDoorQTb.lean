/- The law InquiryLong: part Tb. -/
import Derived.Test.YtcbeheaiblgpfaaGreatDoorRows
import Derived.LaidByTextLater
import Derived.LaidOnce
import Derived.KernelRfl
set_option linter.unusedVariables false
set_option linter.unusedSimpArgs false
noncomputable section
namespace Go.Proofs.YtcbeheaiblgpfaaGreatDoor
open Go
set_option maxRecDepth 100000
theorem aaq : Tryz.prog.worded (varsWordLater true) = true := by kernel_rfl
theorem yap : Tryz.prog.worded (varsWordLater !true) = false := by kernel_rfl
end Go.Proofs.YtcbeheaiblgpfaaGreatDoor
end
noncomputable section
namespace Go.Proofs.YtcbeheaiblgpfaaGreatDoor
open Go
set_option maxRecDepth 100000
theorem xap : Tryz.prog.worded rootWordLater = true := by kernel_rfl
theorem uaI : Tryz.prog.pinnedFits "unicode/utf8.first" = true := by kernel_rfl
end Go.Proofs.YtcbeheaiblgpfaaGreatDoor
end
noncomputable section
namespace Go.Proofs.YtcbeheaiblgpfaaGreatDoor
open Go
set_option maxRecDepth 100000
theorem daq : ([("math/bits.deBruijn32tab", Rows.laid_math_bits_deBruijn32tab), ("math/bits.deBruijn64tab", Rows.laid_math_bits_deBruijn64tab), ("internal/strconv.uint64pow10", Rows.laid_internal_strconv_uint64pow10), ("unicode/utf8.acceptRanges", Rows.laid_unicode_utf8_acceptRanges), ("strconv.ErrRange", Rows.laid_strconv_ErrRange), ("strconv.ErrSyntax", Rows.laid_strconv_ErrSyntax)] : List (String × DataW Unit)).map (fun x => Tryz.prog.kindOfLater x.1) = ([.data, .data, .data, .data, .sentinel, .sentinel] : List LaidKind).map some := by kernel_rfl
theorem kau : Tryz.prog.headLifts.contains "ownunsafe" = false := by kernel_rfl
theorem lau : Tryz.prog.listedFits [("math/bits.deBruijn32tab", Rows.laid_math_bits_deBruijn32tab), ("math/bits.deBruijn64tab", Rows.laid_math_bits_deBruijn64tab), ("internal/strconv.uint64pow10", Rows.laid_internal_strconv_uint64pow10), ("unicode/utf8.acceptRanges", Rows.laid_unicode_utf8_acceptRanges), ("strconv.ErrRange", Rows.laid_strconv_ErrRange), ("strconv.ErrSyntax", Rows.laid_strconv_ErrSyntax), ("unicode/utf8.first", Rows.laid_unicode_utf8_first)] = true := by
 unfold Program.listedFits
 rw [kau]
 kernel_rfl
end Go.Proofs.YtcbeheaiblgpfaaGreatDoor
end
