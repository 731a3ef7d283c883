/- The law InquiryLong: part Rg. -/
import Derived.Test.YtcbeheaiblgpfaaGreatDoorQEn
import Derived.Test.YtcbeheaiblgpfaaGreatDoorQEo
set_option linter.unusedVariables false
set_option linter.unusedSimpArgs false
noncomputable section
namespace Go.Ev
set_option maxRecDepth 100000000
theorem es6 : df E0.ng e6 = true := by decide +kernel
theorem er6 : ig E0 e6.f e6.args .normal [] (jg e6.hin) (goN ⟨E0, ah E0.ng T6, nk T6, kg e6⟩ 100000000) = true := by decide +kernel
end Go.Ev
end
noncomputable section
namespace Go.Ev
set_option maxRecDepth 100000000
theorem es15 : df E0.ng e15 = true := by decide +kernel
theorem er15 : ig E0 e15.f e15.args .normal [] (jg e15.hin) (goN ⟨E0, ah E0.ng T15, nk T15, kg e15⟩ 100000000) = true := by decide +kernel
end Go.Ev
end
noncomputable section
namespace Go.Ev
set_option maxRecDepth 100000000
theorem es24 : df E0.ng e24 = true := by decide +kernel
theorem er24 : ig E0 e24.f e24.args .normal [] (jg e24.hin) (goN ⟨E0, ah E0.ng T24, nk T24, kg e24⟩ 100000000) = true := by decide +kernel
end Go.Ev
end
noncomputable section
namespace Go.Ev
set_option maxRecDepth 100000000
theorem es33 : df E0.ng e33 = true := by decide +kernel
theorem er33 : ig E0 e33.f e33.args .normal [] (jg e33.hin) (goN ⟨E0, ah E0.ng T33, nk T33, kg e33⟩ 100000000) = true := by decide +kernel
end Go.Ev
end
noncomputable section
namespace Go.Ev
set_option maxRecDepth 100000000
theorem es43 : df E0.ng e43 = true := by decide +kernel
theorem er43 : ig E0 e43.f e43.args .normal [] (jg e43.hin) (goN ⟨E0, ah E0.ng T43, nk T43, kg e43⟩ 100000000) = true := by decide +kernel
end Go.Ev
end
noncomputable section
namespace Go.Ev
set_option maxRecDepth 100000000
theorem es53 : df E0.ng e53 = true := by decide +kernel
theorem er53 : ig E0 e53.f e53.args .normal [] (jg e53.hin) (goN ⟨E0, ah E0.ng T53, nk T53, kg e53⟩ 100000000) = true := by decide +kernel
end Go.Ev
end
noncomputable section
namespace Go.Ev
set_option maxRecDepth 100000000
theorem es62 : df E0.ng e62 = true := by decide +kernel
theorem er62 : ig E0 e62.f e62.args .normal [] (jg e62.hin) (goN ⟨E0, ah E0.ng T62, nk T62, kg e62⟩ 100000000) = true := by decide +kernel
end Go.Ev
end
noncomputable section
namespace Go.Ev
set_option maxRecDepth 100000000
theorem es71 : df E0.ng e71 = true := by decide +kernel
theorem er71 : ig E0 e71.f e71.args .normal [] (jg e71.hin) (goN ⟨E0, ah E0.ng T71, nk T71, kg e71⟩ 100000000) = true := by decide +kernel
end Go.Ev
end
