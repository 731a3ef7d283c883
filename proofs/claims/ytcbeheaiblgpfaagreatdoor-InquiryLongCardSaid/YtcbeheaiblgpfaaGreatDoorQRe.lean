/- The law InquiryLong: part Re. -/
import Derived.Test.YtcbeheaiblgpfaaGreatDoorQEn
import Derived.Test.YtcbeheaiblgpfaaGreatDoorQEo
import Derived.Test.YtcbeheaiblgpfaaGreatDoorQEq
set_option linter.unusedVariables false
set_option linter.unusedSimpArgs false
noncomputable section
namespace Go.Ev
set_option maxRecDepth 100000000
theorem es4 : df E0.ng e4 = true := by decide +kernel
theorem er4 : ig E0 e4.f e4.args .normal [] (jg e4.hin) (goN ⟨E0, ah E0.ng T4, nk T4, kg e4⟩ 100000000) = true := by decide +kernel
end Go.Ev
end
noncomputable section
namespace Go.Ev
set_option maxRecDepth 100000000
theorem es13 : df E0.ng e13 = true := by decide +kernel
theorem er13 : ig E0 e13.f e13.args .normal [] (jg e13.hin) (goN ⟨E0, ah E0.ng T13, nk T13, kg e13⟩ 100000000) = true := by decide +kernel
end Go.Ev
end
noncomputable section
namespace Go.Ev
set_option maxRecDepth 100000000
theorem es22 : df E0.ng e22 = true := by decide +kernel
theorem er22 : ig E0 e22.f e22.args .normal [] (jg e22.hin) (goN ⟨E0, ah E0.ng T22, nk T22, kg e22⟩ 100000000) = true := by decide +kernel
end Go.Ev
end
noncomputable section
namespace Go.Ev
set_option maxRecDepth 100000000
theorem es31 : df E0.ng e31 = true := by decide +kernel
theorem er31 : ig E0 e31.f e31.args .normal [] (jg e31.hin) (goN ⟨E0, ah E0.ng T31, nk T31, kg e31⟩ 100000000) = true := by decide +kernel
end Go.Ev
end
noncomputable section
namespace Go.Ev
set_option maxRecDepth 100000000
theorem es40 : df E0.ng e40 = true := by decide +kernel
theorem er40 : ig E0 e40.f e40.args .normal [] (jg e40.hin) (goN ⟨E0, ah E0.ng T40, nk T40, kg e40⟩ 100000000) = true := by decide +kernel
end Go.Ev
end
noncomputable section
namespace Go.Ev
set_option maxRecDepth 100000000
theorem es51 : df E0.ng e51 = true := by decide +kernel
theorem er51 : ig E0 e51.f e51.args .normal [] (jg e51.hin) (goN ⟨E0, ah E0.ng T51, nk T51, kg e51⟩ 100000000) = true := by decide +kernel
end Go.Ev
end
noncomputable section
namespace Go.Ev
set_option maxRecDepth 100000000
theorem es60 : df E0.ng e60 = true := by decide +kernel
theorem pc60 : rO e60 T60 100000 100000000 = true := by decide +kernel
end Go.Ev
end
noncomputable section
namespace Go.Ev
set_option maxRecDepth 100000000
theorem es69 : df E0.ng e69 = true := by decide +kernel
theorem pc69 : rO e69 T69 100000 100000000 = true := by decide +kernel
end Go.Ev
end
noncomputable section
namespace Go.Ev
set_option maxRecDepth 100000000
theorem es78 : df E0.ng e78 = true := by decide +kernel
theorem er78 : ig E0 e78.f e78.args .normal [] (jg e78.hin) (goN ⟨E0, ah E0.ng T78, nk T78, kg e78⟩ 100000000) = true := by decide +kernel
end Go.Ev
end
