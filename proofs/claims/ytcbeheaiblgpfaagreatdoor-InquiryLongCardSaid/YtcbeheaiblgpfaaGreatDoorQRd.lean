/- The law InquiryLong: part Rd. -/
import Derived.Test.YtcbeheaiblgpfaaGreatDoorQEn
import Derived.Test.YtcbeheaiblgpfaaGreatDoorQEo
set_option linter.unusedVariables false
set_option linter.unusedSimpArgs false
noncomputable section
namespace Go.Ev
set_option maxRecDepth 100000000
theorem es3 : df E0.ng e3 = true := by decide +kernel
theorem er3 : ig E0 e3.f e3.args .normal [] (jg e3.hin) (goN ⟨E0, ah E0.ng T3, nk T3, kg e3⟩ 100000000) = true := by decide +kernel
end Go.Ev
end
noncomputable section
namespace Go.Ev
set_option maxRecDepth 100000000
theorem es12 : df E0.ng e12 = true := by decide +kernel
theorem er12 : ig E0 e12.f e12.args .normal [] (jg e12.hin) (goN ⟨E0, ah E0.ng T12, nk T12, kg e12⟩ 100000000) = true := by decide +kernel
end Go.Ev
end
noncomputable section
namespace Go.Ev
set_option maxRecDepth 100000000
theorem es21 : df E0.ng e21 = true := by decide +kernel
theorem er21 : ig E0 e21.f e21.args .normal [] (jg e21.hin) (goN ⟨E0, ah E0.ng T21, nk T21, kg e21⟩ 100000000) = true := by decide +kernel
end Go.Ev
end
noncomputable section
namespace Go.Ev
set_option maxRecDepth 100000000
theorem es30 : df E0.ng e30 = true := by decide +kernel
theorem er30 : ig E0 e30.f e30.args .normal [] (jg e30.hin) (goN ⟨E0, ah E0.ng T30, nk T30, kg e30⟩ 100000000) = true := by decide +kernel
end Go.Ev
end
noncomputable section
namespace Go.Ev
set_option maxRecDepth 100000000
theorem es39 : df E0.ng e39 = true := by decide +kernel
theorem er39 : ig E0 e39.f e39.args .normal [] (jg e39.hin) (goN ⟨E0, ah E0.ng T39, nk T39, kg e39⟩ 100000000) = true := by decide +kernel
end Go.Ev
end
noncomputable section
namespace Go.Ev
set_option maxRecDepth 100000000
theorem es50 : df E0.ng e50 = true := by decide +kernel
theorem er50 : ig E0 e50.f e50.args .normal [] (jg e50.hin) (goN ⟨E0, ah E0.ng T50, nk T50, kg e50⟩ 100000000) = true := by decide +kernel
end Go.Ev
end
noncomputable section
namespace Go.Ev
set_option maxRecDepth 100000000
theorem es59 : df E0.ng e59 = true := by decide +kernel
theorem er59 : ig E0 e59.f e59.args .normal [] (jg e59.hin) (goN ⟨E0, ah E0.ng T59, nk T59, kg e59⟩ 100000000) = true := by decide +kernel
end Go.Ev
end
noncomputable section
namespace Go.Ev
set_option maxRecDepth 100000000
theorem es68 : df E0.ng e68 = true := by decide +kernel
theorem er68 : ig E0 e68.f e68.args .normal [] (jg e68.hin) (goN ⟨E0, ah E0.ng T68, nk T68, kg e68⟩ 100000000) = true := by decide +kernel
end Go.Ev
end
noncomputable section
namespace Go.Ev
set_option maxRecDepth 100000000
theorem es77 : df E0.ng e77 = true := by decide +kernel
theorem er77 : ig E0 e77.f e77.args .normal [] (jg e77.hin) (goN ⟨E0, ah E0.ng T77, nk T77, kg e77⟩ 100000000) = true := by decide +kernel
end Go.Ev
end
