/- The law InquiryLong: part Ta. -/
import Derived.Test.YtcbeheaiblgpfaaGreatDoorRows
import Derived.LaidByTextLater
import Derived.LaidOnce
import Derived.KernelRfl
set_option linter.unusedVariables false
set_option linter.unusedSimpArgs false
noncomputable section
namespace Go.Proofs.YtcbeheaiblgpfaaGreatDoor
open Go
set_option maxRecDepth 100000
theorem eaq : varsId Tryz.prog = 776 := by kernel_rfl
theorem iau : (Tryz.prog.funcNamed "gosem.cut.vars").isSome = true := by
 cases h : Tryz.prog.funcNamed "gosem.cut.vars" with
 | some g => rfl
 | none =>
  have e := eaq
  unfold varsId at e
  rw [h] at e
  exact absurd e (by decide)
end Go.Proofs.YtcbeheaiblgpfaaGreatDoor
end
