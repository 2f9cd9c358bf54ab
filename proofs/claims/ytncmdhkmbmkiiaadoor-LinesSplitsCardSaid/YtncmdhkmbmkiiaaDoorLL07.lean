/- The laws of layer 07: the functions' texts answer true. -/
import Derived.Test.YtncmdhkmbmkiiaaDoorL07d
import Derived.Test.YtncmdhkmbmkiiaaDoorOpn
import Derived.Test.YtncmdhkmbmkiiaaDoorLaid7
set_option linter.unusedSimpArgs false
set_option linter.unusedVariables false
namespace Go.Proofs.YtncmdhkmbmkiiaaDoor
set_option maxRecDepth 100000
theorem law_LinesSplits (s : List UInt8) : AFun Tryd.prog Env7 10 [.str s] (.bool true) :=
  a_law07_LinesSplits Env7 stabEnv7 (fun _ h => h.2.2) (fun _ h => h.2.1) s (LinesSplits_true s)
end Go.Proofs.YtncmdhkmbmkiiaaDoor
