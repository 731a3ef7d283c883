/- The law InquiryLong: part Se. -/
import Derived.Test.YtcbeheaiblgpfaaGreatDoorRows
import Derived.JoinedOf
import Derived.KernelRfl
set_option linter.unusedVariables false
set_option linter.unusedSimpArgs false
noncomputable section
namespace Go.Proofs.YtcbeheaiblgpfaaGreatDoor.Ask
open Go
set_option maxRecDepth 100000
theorem fine0 : (List.range' 0 100).all (rowFine Tryz.prog) = true := by kernel_rfl
theorem fine1 : (List.range' 100 100).all (rowFine Tryz.prog) = true := by kernel_rfl
theorem fine2 : (List.range' 200 100).all (rowFine Tryz.prog) = true := by kernel_rfl
theorem fine3 : (List.range' 300 100).all (rowFine Tryz.prog) = true := by kernel_rfl
theorem fine4 : (List.range' 400 100).all (rowFine Tryz.prog) = true := by kernel_rfl
theorem fine5 : (List.range' 500 100).all (rowFine Tryz.prog) = true := by kernel_rfl
theorem fine6 : (List.range' 600 100).all (rowFine Tryz.prog) = true := by kernel_rfl
theorem fine7 : (List.range' 700 100).all (rowFine Tryz.prog) = true := by kernel_rfl
theorem fine8 : (List.range' 800 97).all (rowFine Tryz.prog) = true := by kernel_rfl
theorem fA (a n k : Nat) (p : Nat → Bool) (h1 : (List.range' a n).all p = true) (h2 : (List.range' (a + n) k).all p = true) : (List.range' a (n + k)).all p = true := by
 rw [← List.range'_append_1, List.all_append, h1, h2]
 rfl
theorem cO : Tryz.prog.types.size = 897 := by kernel_rfl
theorem kas : (List.range 897).all (rowFine Tryz.prog) = true := by
 rw [List.range_eq_range']
 exact fA 0 800 97 _ (fA 0 700 100 _ (fA 0 600 100 _ (fA 0 500 100 _ (fA 0 400 100 _ (fA 0 300 100 _ (fA 0 200 100 _ (fA 0 100 100 _ (fine0) fine1) fine2) fine3) fine4) fine5) fine6) fine7) fine8
theorem wellTyped : Tryz.prog.globals.all (fun g => decide (g.type < Tryz.prog.types.size)) = true := by
 rw [cO]
 kernel_rfl
theorem bai : Tryz.prog.funcs.all (fun f => f.params.all fun t => decide (t < Tryz.prog.types.size)) = true := by
 rw [cO]
 kernel_rfl
theorem iaj : laidOutB Tryz.prog = true := by
 unfold laidOutB
 rw [cO, kas]
 have h1 := wellTyped
 have h2 := bai
 rw [cO] at h1 h2
 rw [h1, h2]
 rfl
theorem iac : mapsRowed Tryz.prog = true := by kernel_rfl
theorem zab : Tryz.prog.plainKeys = false := by kernel_rfl
theorem rZ : Tryz.prog.stopsHeard = true := by kernel_rfl
theorem oaf : Tryz.prog.mayEnter = true := by kernel_rfl
theorem naf : Tryz.prog.funcNamed "lagan/laganlaw09.InquiryLong" = some 3 := by kernel_rfl
end Go.Proofs.YtcbeheaiblgpfaaGreatDoor.Ask
end
