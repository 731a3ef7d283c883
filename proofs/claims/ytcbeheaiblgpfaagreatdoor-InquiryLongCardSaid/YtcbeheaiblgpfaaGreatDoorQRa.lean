/- The law InquiryLong: part Ra. -/
import Derived.Test.YtcbeheaiblgpfaaGreatDoorQEn
import Derived.Test.YtcbeheaiblgpfaaGreatDoorQEo
import Derived.Test.YtcbeheaiblgpfaaGreatDoorQEq
set_option linter.unusedVariables false
set_option linter.unusedSimpArgs false
noncomputable section
namespace Go.Ev
set_option maxRecDepth 100000000
theorem es0 : df E0.ng e0 = true := by decide +kernel
theorem er0 : ig E0 e0.f e0.args .normal [] (jg e0.hin) (goN ⟨E0, ah E0.ng T0, nk T0, kg e0⟩ 100000000) = true := by decide +kernel
end Go.Ev
end
noncomputable section
namespace Go.Ev
set_option maxRecDepth 100000000
theorem es9 : df E0.ng e9 = true := by decide +kernel
theorem er9 : ig E0 e9.f e9.args .normal [] (jg e9.hin) (goN ⟨E0, ah E0.ng T9, nk T9, kg e9⟩ 100000000) = true := by decide +kernel
end Go.Ev
end
noncomputable section
namespace Go.Ev
set_option maxRecDepth 100000000
theorem es18 : df E0.ng e18 = true := by decide +kernel
theorem er18 : ig E0 e18.f e18.args .normal [] (jg e18.hin) (goN ⟨E0, ah E0.ng T18, nk T18, kg e18⟩ 100000000) = true := by decide +kernel
end Go.Ev
end
noncomputable section
namespace Go.Ev
set_option maxRecDepth 100000000
theorem es27 : df E0.ng e27 = true := by decide +kernel
theorem er27 : ig E0 e27.f e27.args .normal [] (jg e27.hin) (goN ⟨E0, ah E0.ng T27, nk T27, kg e27⟩ 100000000) = true := by decide +kernel
end Go.Ev
end
noncomputable section
namespace Go.Ev
set_option maxRecDepth 100000000
theorem es36 : df E0.ng e36 = true := by decide +kernel
theorem er36 : ig E0 e36.f e36.args .normal [] (jg e36.hin) (goN ⟨E0, ah E0.ng T36, nk T36, kg e36⟩ 100000000) = true := by decide +kernel
end Go.Ev
end
noncomputable section
namespace Go.Ev
set_option maxRecDepth 100000000
theorem es47 : df E0.ng e47 = true := by decide +kernel
theorem pc47 : rO e47 T47 100000 100000000 = true := by decide +kernel
end Go.Ev
end
noncomputable section
namespace Go.Ev
set_option maxRecDepth 100000000
theorem es56 : df E0.ng e56 = true := by decide +kernel
theorem er56 : ig E0 e56.f e56.args .normal [] (jg e56.hin) (goN ⟨E0, ah E0.ng T56, nk T56, kg e56⟩ 100000000) = true := by decide +kernel
end Go.Ev
end
noncomputable section
namespace Go.Ev
set_option maxRecDepth 100000000
theorem es65 : df E0.ng e65 = true := by decide +kernel
theorem er65 : ig E0 e65.f e65.args .normal [] (jg e65.hin) (goN ⟨E0, ah E0.ng T65, nk T65, kg e65⟩ 100000000) = true := by decide +kernel
end Go.Ev
end
noncomputable section
namespace Go.Ev
set_option maxRecDepth 100000000
theorem es74 : df E0.ng e74 = true := by decide +kernel
theorem er74 : ig E0 e74.f e74.args .normal [] (jg e74.hin) (goN ⟨E0, ah E0.ng T74, nk T74, kg e74⟩ 100000000) = true := by decide +kernel
end Go.Ev
end
