/- The law InquiryLong: part Sa. -/
import Derived.Test.YtcbeheaiblgpfaaGreatDoorProg
import GoSem.Claims
import Derived.KernelRfl
set_option linter.unusedVariables false
set_option linter.unusedSimpArgs false
noncomputable section
namespace Go.Proofs.YtcbeheaiblgpfaaGreatDoor.Ask
open Go
set_option maxRecDepth 100000
theorem waits : waiting Tryz.prog = #[false, false, false, false, false, false, false, false] := by kernel_rfl
def iV (n : Nat) : Array Value := Array.replicate n (.int .u8 0)
def waI : Array Obj := #[.cells #[.int .i64 0] 3, .cells #[.nilIface] 100, .cells #[.nilIface] 100, .cells (Array.replicate 20 (.int .u64 0)) 744, .cells (iV 256) 746, .cells (iV 32) 749, .cells (iV 32) 862, .cells (iV 64) 863]
def aal : Array Obj := ((((waI.push (.cells ((Array.range Tryz.prog.types.size).map fun t => .int .u64 (Int.ofNat t)) 0)).push (.map #[] 0)).push (.finalizers #[] none)).push (.cells #[.bool false] 0)).push (.finalizers #[] none)
theorem yB (os : Os) : (begin Tryz.prog (fun _ _ => 0) os).world.heap = aal := by
 unfold begin
 rw [waits]
 kernel_rfl
end Go.Proofs.YtcbeheaiblgpfaaGreatDoor.Ask
end
