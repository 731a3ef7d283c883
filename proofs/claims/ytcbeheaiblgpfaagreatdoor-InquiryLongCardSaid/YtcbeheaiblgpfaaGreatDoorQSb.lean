/- The law InquiryLong: part Sb. -/
import Derived.Test.YtcbeheaiblgpfaaGreatDoorRows
import Derived.Handed
import Derived.SizedLaws
import Derived.LaidLaws
import Derived.Lay
import Derived.MakeChecks
import Derived.ProofKit
import Derived.Test.YtcbeheaiblgpfaaGreatDoorQSa
set_option linter.unusedVariables false
set_option linter.unusedSimpArgs false
noncomputable section
namespace Go.Proofs.YtcbeheaiblgpfaaGreatDoor.Ask
open Go
set_option maxRecDepth 100000
def W0 (os : Os) : World := { heap := aal, tape := fun _ _ => 0, drawn := 0, os := os, output := #[] }
theorem pac (os : Os) : World.holding Tryz.prog os ⟨#[], #[], []⟩ = W0 os := by
 unfold World.holding World.settled
 dsimp only
 rw [yB]
 kernel_rfl
def V (os : Os) : World := (World.laidAll Tryz.prog os Rows.inquiryLongRow.laid).forCall (fun _ _ => 0) ⟨#[], #[.int .i64 0, .int .i64 0, .int .i64 0, .int .i64 0], []⟩
def V0 (os : Os) : World := ((W0 os).layVars Tryz.prog Rows.inquiryLongRow.laid).forCall (fun _ _ => 0) ⟨#[], #[.int .i64 0, .int .i64 0, .int .i64 0, .int .i64 0], []⟩
theorem nap (os : Os) : V os = V0 os := by
 unfold V V0 World.laidAll
 rw [pac]
theorem w1 (os : Os) : (V os).variablesZipB Tryz.prog = true := by
 rw [nap]
 unfold World.variablesZipB
 dsimp only
 rw [yB]
 kernel_rfl
theorem w2 (os : Os) : ((V os).heap.toList.drop Tryz.prog.globals.size).take ((begin Tryz.prog (fun _ _ => 0) default).world.heap.size - Tryz.prog.globals.size) = (begin Tryz.prog (fun _ _ => 0) default).world.heap.toList.drop Tryz.prog.globals.size := by
 rw [nap, yB]
 kernel_rfl
theorem w3 (os : Os) : Input.okWideB Tryz.prog (V os) 3 ⟨#[], #[.int .i64 0, .int .i64 0, .int .i64 0, .int .i64 0], []⟩ = true := by
 rw [nap]
 kernel_rfl
theorem w4 (os : Os) (H : Type) (enc : TypeId × Value → H) : Rows.inquiryLongSpec.preB enc Tryz.prog Tryz.f3 [] false (V os).memory #[.int .i64 0, .int .i64 0, .int .i64 0, .int .i64 0] 8 = true := by
 rw [nap]
 kernel_rfl
theorem w5 (os : Os) (H : Type) (enc : TypeId × Value → H) : Rows.inquiryLongSpec.sizedB enc Tryz.prog Tryz.f3 false (V os).memory #[.int .i64 0, .int .i64 0, .int .i64 0, .int .i64 0] 8 = true := by
 rw [nap]
 kernel_rfl
theorem w6 (os : Os) : (World.holding Tryz.prog os ⟨#[], #[], []⟩).layFits Tryz.prog Rows.inquiryLongRow.laid [] = true := by
 rw [pac]
 kernel_rfl
theorem w7 (os : Os) : (World.holding Tryz.prog os ⟨#[], #[], []⟩).layIfaces Tryz.prog Rows.inquiryLongRow.laid (World.laidAll Tryz.prog os Rows.inquiryLongRow.laid) = true := by
 unfold World.laidAll
 rw [pac]
 kernel_rfl
theorem own : ownKnob Tryz.prog.godebug = none := by kernel_rfl
theorem noInit : Tryz.prog.inits.idxOf? 3 = none := by kernel_rfl
theorem met (os : Os) : laidMetH Tryz.prog Rows.inquiryLongRow.laid (V os).memory := by
 rw [MakeChecks.laidMetH_plain _ _ _ (by kernel_rfl)]
 exact laidMet_laidAll _ (w6 os) (w7 os)
theorem shaped (os : Os) : (V os).Shaped Tryz.prog := World.shaped_of_ZipB (w1 os) (w2 os)
end Go.Proofs.YtcbeheaiblgpfaaGreatDoor.Ask
end
