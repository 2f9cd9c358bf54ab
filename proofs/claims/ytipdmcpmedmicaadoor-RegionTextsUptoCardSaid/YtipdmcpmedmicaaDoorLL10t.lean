/- RegionTexts: the function's text answers true. -/
import Derived.Test.YtipdmcpmedmicaaDoorL10w
import Derived.Test.YtipdmcpmedmicaaDoorOpn
import Derived.Test.YtipdmcpmedmicaaDoorLaid7
set_option linter.unusedSimpArgs false
set_option linter.unusedVariables false
namespace Go.Proofs.YtipdmcpmedmicaaDoor
set_option maxRecDepth 100000
theorem law_RegionTexts (r : T_api_Region) (s : List UInt8) (hs : s.length ≤ 1048576) : AFun Tryd.prog Env7 8 [r.d, .str s] (.bool true) :=
  a_law10_RegionTexts Env7 stabEnv7 (fun _ h => h.2.2) (fun _ h => h.2.1) (fun _ h => h.1) r s (RegionTexts_true r s hs)
end Go.Proofs.YtipdmcpmedmicaaDoor
