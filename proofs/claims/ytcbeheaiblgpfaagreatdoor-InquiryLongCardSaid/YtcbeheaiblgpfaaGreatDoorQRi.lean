/- The law InquiryLong: part Ri. -/
import Derived.Test.YtcbeheaiblgpfaaGreatDoorQEn
import Derived.Test.YtcbeheaiblgpfaaGreatDoorQEo
import Derived.Test.YtcbeheaiblgpfaaGreatDoorQEq
set_option linter.unusedVariables false
set_option linter.unusedSimpArgs false
noncomputable section
namespace Go.Ev
set_option maxRecDepth 100000000
theorem es8 : df E0.ng e8 = true := by decide +kernel
theorem er8 : ig E0 e8.f e8.args .normal [] (jg e8.hin) (goN ⟨E0, ah E0.ng T8, nk T8, kg e8⟩ 100000000) = true := by decide +kernel
end Go.Ev
end
noncomputable section
namespace Go.Ev
set_option maxRecDepth 100000000
theorem es17 : df E0.ng e17 = true := by decide +kernel
theorem er17 : ig E0 e17.f e17.args .normal [] (jg e17.hin) (goN ⟨E0, ah E0.ng T17, nk T17, kg e17⟩ 100000000) = true := by decide +kernel
end Go.Ev
end
noncomputable section
namespace Go.Ev
set_option maxRecDepth 100000000
theorem es26 : df E0.ng e26 = true := by decide +kernel
theorem er26 : ig E0 e26.f e26.args .normal [] (jg e26.hin) (goN ⟨E0, ah E0.ng T26, nk T26, kg e26⟩ 100000000) = true := by decide +kernel
end Go.Ev
end
noncomputable section
namespace Go.Ev
set_option maxRecDepth 100000000
theorem es35 : df E0.ng e35 = true := by decide +kernel
theorem er35 : ig E0 e35.f e35.args .normal [] (jg e35.hin) (goN ⟨E0, ah E0.ng T35, nk T35, kg e35⟩ 100000000) = true := by decide +kernel
end Go.Ev
end
noncomputable section
namespace Go.Ev
set_option maxRecDepth 100000000
theorem es45 : df E0.ng e45 = true := by decide +kernel
theorem er45 : ig E0 e45.f e45.args .normal [] (jg e45.hin) (goN ⟨E0, ah E0.ng T45, nk T45, kg e45⟩ 100000000) = true := by decide +kernel
end Go.Ev
end
noncomputable section
namespace Go.Ev
set_option maxRecDepth 100000000
theorem es55 : df E0.ng e55 = true := by decide +kernel
theorem er55 : ig E0 e55.f e55.args .normal [] (jg e55.hin) (goN ⟨E0, ah E0.ng T55, nk T55, kg e55⟩ 100000000) = true := by decide +kernel
end Go.Ev
end
noncomputable section
namespace Go.Ev
set_option maxRecDepth 100000000
theorem es64 : df E0.ng e64 = true := by decide +kernel
theorem pc64 : rO e64 T64 100000 100000000 = true := by decide +kernel
end Go.Ev
end
noncomputable section
namespace Go.Ev
set_option maxRecDepth 100000000
theorem es73 : df E0.ng e73 = true := by decide +kernel
theorem er73 : ig E0 e73.f e73.args .normal [] (jg e73.hin) (goN ⟨E0, ah E0.ng T73, nk T73, kg e73⟩ 100000000) = true := by decide +kernel
end Go.Ev
end
