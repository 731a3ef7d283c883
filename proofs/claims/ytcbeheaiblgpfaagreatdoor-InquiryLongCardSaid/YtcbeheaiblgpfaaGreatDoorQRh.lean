/- The law InquiryLong: part Rh. -/
import Derived.Test.YtcbeheaiblgpfaaGreatDoorQEn
import Derived.Test.YtcbeheaiblgpfaaGreatDoorQEo
set_option linter.unusedVariables false
set_option linter.unusedSimpArgs false
noncomputable section
namespace Go.Ev
set_option maxRecDepth 100000000
theorem es7 : df E0.ng e7 = true := by decide +kernel
theorem er7 : ig E0 e7.f e7.args .normal [] (jg e7.hin) (goN ⟨E0, ah E0.ng T7, nk T7, kg e7⟩ 100000000) = true := by decide +kernel
end Go.Ev
end
noncomputable section
namespace Go.Ev
set_option maxRecDepth 100000000
theorem es16 : df E0.ng e16 = true := by decide +kernel
theorem er16 : ig E0 e16.f e16.args .normal [] (jg e16.hin) (goN ⟨E0, ah E0.ng T16, nk T16, kg e16⟩ 100000000) = true := by decide +kernel
end Go.Ev
end
noncomputable section
namespace Go.Ev
set_option maxRecDepth 100000000
theorem es25 : df E0.ng e25 = true := by decide +kernel
theorem er25 : ig E0 e25.f e25.args .normal [] (jg e25.hin) (goN ⟨E0, ah E0.ng T25, nk T25, kg e25⟩ 100000000) = true := by decide +kernel
end Go.Ev
end
noncomputable section
namespace Go.Ev
set_option maxRecDepth 100000000
theorem es34 : df E0.ng e34 = true := by decide +kernel
theorem er34 : ig E0 e34.f e34.args .normal [] (jg e34.hin) (goN ⟨E0, ah E0.ng T34, nk T34, kg e34⟩ 100000000) = true := by decide +kernel
end Go.Ev
end
noncomputable section
namespace Go.Ev
set_option maxRecDepth 100000000
theorem es44 : df E0.ng e44 = true := by decide +kernel
theorem er44 : ig E0 e44.f e44.args .normal [] (jg e44.hin) (goN ⟨E0, ah E0.ng T44, nk T44, kg e44⟩ 100000000) = true := by decide +kernel
end Go.Ev
end
noncomputable section
namespace Go.Ev
set_option maxRecDepth 100000000
theorem es54 : df E0.ng e54 = true := by decide +kernel
theorem er54 : ig E0 e54.f e54.args .normal [] (jg e54.hin) (goN ⟨E0, ah E0.ng T54, nk T54, kg e54⟩ 100000000) = true := by decide +kernel
end Go.Ev
end
noncomputable section
namespace Go.Ev
set_option maxRecDepth 100000000
theorem es63 : df E0.ng e63 = true := by decide +kernel
theorem er63 : ig E0 e63.f e63.args .normal [] (jg e63.hin) (goN ⟨E0, ah E0.ng T63, nk T63, kg e63⟩ 100000000) = true := by decide +kernel
end Go.Ev
end
noncomputable section
namespace Go.Ev
set_option maxRecDepth 100000000
theorem es72 : df E0.ng e72 = true := by decide +kernel
theorem er72 : ig E0 e72.f e72.args .normal [] (jg e72.hin) (goN ⟨E0, ah E0.ng T72, nk T72, kg e72⟩ 100000000) = true := by decide +kernel
end Go.Ev
end
