/- The law InquiryLong: part Rc. -/
import Derived.Test.YtcbeheaiblgpfaaGreatDoorQEn
import Derived.Test.YtcbeheaiblgpfaaGreatDoorQEo
import Derived.Test.YtcbeheaiblgpfaaGreatDoorQEq
set_option linter.unusedVariables false
set_option linter.unusedSimpArgs false
noncomputable section
namespace Go.Ev
set_option maxRecDepth 100000000
theorem es2 : df E0.ng e2 = true := by decide +kernel
theorem er2 : ig E0 e2.f e2.args .normal [] (jg e2.hin) (goN ⟨E0, ah E0.ng T2, nk T2, kg e2⟩ 100000000) = true := by decide +kernel
end Go.Ev
end
noncomputable section
namespace Go.Ev
set_option maxRecDepth 100000000
theorem es11 : df E0.ng e11 = true := by decide +kernel
theorem er11 : ig E0 e11.f e11.args .normal [] (jg e11.hin) (goN ⟨E0, ah E0.ng T11, nk T11, kg e11⟩ 100000000) = true := by decide +kernel
end Go.Ev
end
noncomputable section
namespace Go.Ev
set_option maxRecDepth 100000000
theorem es20 : df E0.ng e20 = true := by decide +kernel
theorem er20 : ig E0 e20.f e20.args .normal [] (jg e20.hin) (goN ⟨E0, ah E0.ng T20, nk T20, kg e20⟩ 100000000) = true := by decide +kernel
end Go.Ev
end
noncomputable section
namespace Go.Ev
set_option maxRecDepth 100000000
theorem es29 : df E0.ng e29 = true := by decide +kernel
theorem er29 : ig E0 e29.f e29.args .normal [] (jg e29.hin) (goN ⟨E0, ah E0.ng T29, nk T29, kg e29⟩ 100000000) = true := by decide +kernel
end Go.Ev
end
noncomputable section
namespace Go.Ev
set_option maxRecDepth 100000000
theorem es38 : df E0.ng e38 = true := by decide +kernel
theorem er38 : ig E0 e38.f e38.args .normal [] (jg e38.hin) (goN ⟨E0, ah E0.ng T38, nk T38, kg e38⟩ 100000000) = true := by decide +kernel
end Go.Ev
end
noncomputable section
namespace Go.Ev
set_option maxRecDepth 100000000
theorem es49 : df E0.ng e49 = true := by decide +kernel
theorem er49 : ig E0 e49.f e49.args .normal [] (jg e49.hin) (goN ⟨E0, ah E0.ng T49, nk T49, kg e49⟩ 100000000) = true := by decide +kernel
end Go.Ev
end
noncomputable section
namespace Go.Ev
set_option maxRecDepth 100000000
theorem es58 : df E0.ng e58 = true := by decide +kernel
theorem er58 : ig E0 e58.f e58.args .normal [] (jg e58.hin) (goN ⟨E0, ah E0.ng T58, nk T58, kg e58⟩ 100000000) = true := by decide +kernel
end Go.Ev
end
noncomputable section
namespace Go.Ev
set_option maxRecDepth 100000000
theorem es67 : df E0.ng e67 = true := by decide +kernel
theorem er67 : ig E0 e67.f e67.args .normal [] (jg e67.hin) (goN ⟨E0, ah E0.ng T67, nk T67, kg e67⟩ 100000000) = true := by decide +kernel
end Go.Ev
end
noncomputable section
namespace Go.Ev
set_option maxRecDepth 100000000
theorem es76 : df E0.ng e76 = true := by decide +kernel
theorem pc76 : rO e76 T76 100000 100000000 = true := by decide +kernel
end Go.Ev
end
