/- The law InquiryLong: part Sg. -/
import Derived.Test.YtcbeheaiblgpfaaGreatDoorQSc
import Derived.Test.YtcbeheaiblgpfaaGreatDoorQSe
import Derived.Test.YtcbeheaiblgpfaaGreatDoorQSf
set_option linter.unusedVariables false
set_option linter.unusedSimpArgs false
noncomputable section
namespace Go.Proofs.YtcbeheaiblgpfaaGreatDoor.Ask
open Go
set_option maxRecDepth 100000
theorem bA {a b : Bool} (h1 : a = true) (h2 : b = true) : (a && b) = true := by
  rw [h1, h2]
  rfl
theorem facts : joinedFacts Tryz.prog 3 Tryz.f3 Rows.inquiryLongSpec Rows.inquiryLongRow = true := by
  unfold joinedFacts
  exact bA (bA (bA (bA (bA (bA (bA (bA (bA (bA (bA (bA (bA (bA (bA (bA (bA (bA (bA (bA (bA (bA (bA (bA (bA (bA (bA (bA (bA (bA (bA (by kernel_rfl) iaj) iac) (by kernel_rfl)) (by kernel_rfl)) (by kernel_rfl)) (by kernel_rfl)) (by kernel_rfl)) (by kernel_rfl)) (by rw [maj]; kernel_rfl)) (by rw [oL]; rfl)) (by rw [xae]; rfl)) (by rw [jab]; kernel_rfl)) (by kernel_rfl)) (by kernel_rfl)) (by kernel_rfl)) (by kernel_rfl)) (by kernel_rfl)) (by kernel_rfl)) (by kernel_rfl)) (by kernel_rfl)) (by kernel_rfl)) (by rw [zab]; rfl)) (by kernel_rfl)) rZ) oaf) (by kernel_rfl)) (by kernel_rfl)) (by kernel_rfl)) (by kernel_rfl)) (by kernel_rfl)) (by kernel_rfl)
theorem fag : Tryz.f3.isInstance Tryz.prog Rows.inquiryLongRow.origin Rows.inquiryLongRow.targs := of_decide_eq_true (by kernel_rfl)
theorem zah : Tryz.f3.isWrapper Tryz.prog Rows.inquiryLongRow.wrapper Rows.inquiryLongRow.mainSum := by
  unfold Func.isWrapper
  first
  | (rw [if_pos (by decide +kernel)]; kernel_rfl)
  | (rw [if_neg (by decide +kernel)]; exact ⟨rfl, rfl⟩)
theorem ban : Rows.InquiryLongSaid :=
  OpenClaim.holds_of_wide 3 Tryz.f3 rfl rfl rfl rfl rfl rfl rfl ⟨rfl, rfl, rfl, rfl, rfl⟩ rfl rfl rfl rfl rfl naf Tryz.func3 facts fag zah
    (fun os started H enc _ => lifted os started H enc)
end Go.Proofs.YtcbeheaiblgpfaaGreatDoor.Ask
end
