/- The law InquiryLong: part Rf. -/
import Derived.Test.YtcbeheaiblgpfaaGreatDoorQEn
import Derived.Test.YtcbeheaiblgpfaaGreatDoorQEo
import Derived.Test.YtcbeheaiblgpfaaGreatDoorQEq
set_option linter.unusedVariables false
set_option linter.unusedSimpArgs false
noncomputable section
namespace Go.Ev
set_option maxRecDepth 100000000
theorem es5 : df E0.ng e5 = true := by decide +kernel
theorem er5 : ig E0 e5.f e5.args .normal [] (jg e5.hin) (goN ⟨E0, ah E0.ng T5, nk T5, kg e5⟩ 100000000) = true := by decide +kernel
end Go.Ev
end
noncomputable section
namespace Go.Ev
set_option maxRecDepth 100000000
theorem es14 : df E0.ng e14 = true := by decide +kernel
theorem er14 : ig E0 e14.f e14.args .normal [] (jg e14.hin) (goN ⟨E0, ah E0.ng T14, nk T14, kg e14⟩ 100000000) = true := by decide +kernel
end Go.Ev
end
noncomputable section
namespace Go.Ev
set_option maxRecDepth 100000000
theorem es23 : df E0.ng e23 = true := by decide +kernel
theorem er23 : ig E0 e23.f e23.args .normal [] (jg e23.hin) (goN ⟨E0, ah E0.ng T23, nk T23, kg e23⟩ 100000000) = true := by decide +kernel
end Go.Ev
end
noncomputable section
namespace Go.Ev
set_option maxRecDepth 100000000
theorem es32 : df E0.ng e32 = true := by decide +kernel
theorem er32 : ig E0 e32.f e32.args .normal [] (jg e32.hin) (goN ⟨E0, ah E0.ng T32, nk T32, kg e32⟩ 100000000) = true := by decide +kernel
end Go.Ev
end
noncomputable section
namespace Go.Ev
set_option maxRecDepth 100000000
theorem es42 : df E0.ng e42 = true := by decide +kernel
theorem pc42 : rO e42 T42 100000 100000000 = true := by decide +kernel
end Go.Ev
end
noncomputable section
namespace Go.Ev
set_option maxRecDepth 100000000
theorem es52 : df E0.ng e52 = true := by decide +kernel
theorem pc52 : rO e52 T52 100000 100000000 = true := by decide +kernel
end Go.Ev
end
noncomputable section
namespace Go.Ev
set_option maxRecDepth 100000000
theorem es61 : df E0.ng e61 = true := by decide +kernel
theorem er61 : ig E0 e61.f e61.args .normal [] (jg e61.hin) (goN ⟨E0, ah E0.ng T61, nk T61, kg e61⟩ 100000000) = true := by decide +kernel
end Go.Ev
end
noncomputable section
namespace Go.Ev
set_option maxRecDepth 100000000
theorem es70 : df E0.ng e70 = true := by decide +kernel
theorem er70 : ig E0 e70.f e70.args .normal [] (jg e70.hin) (goN ⟨E0, ah E0.ng T70, nk T70, kg e70⟩ 100000000) = true := by decide +kernel
end Go.Ev
end
noncomputable section
namespace Go.Ev
set_option maxRecDepth 100000000
theorem es79 : df E0.ng e79 = true := by decide +kernel
theorem er79 : ig E0 e79.f e79.args .normal [] (jg e79.hin) (goN ⟨E0, ah E0.ng T79, nk T79, kg e79⟩ 100000000) = true := by decide +kernel
end Go.Ev
end
