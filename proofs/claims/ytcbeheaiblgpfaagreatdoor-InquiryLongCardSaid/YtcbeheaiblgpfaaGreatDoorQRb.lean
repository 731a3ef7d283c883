/- The law InquiryLong: part Rb. -/
import Derived.Test.YtcbeheaiblgpfaaGreatDoorQEn
import Derived.Test.YtcbeheaiblgpfaaGreatDoorQEo
set_option linter.unusedVariables false
set_option linter.unusedSimpArgs false
noncomputable section
namespace Go.Ev
set_option maxRecDepth 100000000
theorem es1 : df E0.ng e1 = true := by decide +kernel
theorem er1 : ig E0 e1.f e1.args .normal [] (jg e1.hin) (goN ⟨E0, ah E0.ng T1, nk T1, kg e1⟩ 100000000) = true := by decide +kernel
end Go.Ev
end
noncomputable section
namespace Go.Ev
set_option maxRecDepth 100000000
theorem es10 : df E0.ng e10 = true := by decide +kernel
theorem er10 : ig E0 e10.f e10.args .normal [] (jg e10.hin) (goN ⟨E0, ah E0.ng T10, nk T10, kg e10⟩ 100000000) = true := by decide +kernel
end Go.Ev
end
noncomputable section
namespace Go.Ev
set_option maxRecDepth 100000000
theorem es19 : df E0.ng e19 = true := by decide +kernel
theorem er19 : ig E0 e19.f e19.args .normal [] (jg e19.hin) (goN ⟨E0, ah E0.ng T19, nk T19, kg e19⟩ 100000000) = true := by decide +kernel
end Go.Ev
end
noncomputable section
namespace Go.Ev
set_option maxRecDepth 100000000
theorem es28 : df E0.ng e28 = true := by decide +kernel
theorem er28 : ig E0 e28.f e28.args .normal [] (jg e28.hin) (goN ⟨E0, ah E0.ng T28, nk T28, kg e28⟩ 100000000) = true := by decide +kernel
end Go.Ev
end
noncomputable section
namespace Go.Ev
set_option maxRecDepth 100000000
theorem es37 : df E0.ng e37 = true := by decide +kernel
theorem er37 : ig E0 e37.f e37.args .normal [] (jg e37.hin) (goN ⟨E0, ah E0.ng T37, nk T37, kg e37⟩ 100000000) = true := by decide +kernel
end Go.Ev
end
noncomputable section
namespace Go.Ev
set_option maxRecDepth 100000000
theorem es48 : df E0.ng e48 = true := by decide +kernel
theorem er48 : ig E0 e48.f e48.args .normal [] (jg e48.hin) (goN ⟨E0, ah E0.ng T48, nk T48, kg e48⟩ 100000000) = true := by decide +kernel
end Go.Ev
end
noncomputable section
namespace Go.Ev
set_option maxRecDepth 100000000
theorem es57 : df E0.ng e57 = true := by decide +kernel
theorem er57 : ig E0 e57.f e57.args .normal [] (jg e57.hin) (goN ⟨E0, ah E0.ng T57, nk T57, kg e57⟩ 100000000) = true := by decide +kernel
end Go.Ev
end
noncomputable section
namespace Go.Ev
set_option maxRecDepth 100000000
theorem es66 : df E0.ng e66 = true := by decide +kernel
theorem er66 : ig E0 e66.f e66.args .normal [] (jg e66.hin) (goN ⟨E0, ah E0.ng T66, nk T66, kg e66⟩ 100000000) = true := by decide +kernel
end Go.Ev
end
noncomputable section
namespace Go.Ev
set_option maxRecDepth 100000000
theorem es75 : df E0.ng e75 = true := by decide +kernel
theorem er75 : ig E0 e75.f e75.args .normal [] (jg e75.hin) (goN ⟨E0, ah E0.ng T75, nk T75, kg e75⟩ 100000000) = true := by decide +kernel
end Go.Ev
end
