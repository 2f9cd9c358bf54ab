/- Laws of layer 40: the functions' texts answer true. -/
import Derived.Test.YtipdmcpmedmicaaDoorL40a
import Derived.Test.YtipdmcpmedmicaaDoorOpn
import Derived.Test.YtipdmcpmedmicaaDoorLaid40
set_option linter.unusedSimpArgs false
set_option linter.unusedVariables false
namespace Go.Proofs.YtipdmcpmedmicaaDoor
set_option maxRecDepth 100000
theorem law_ReadingNeeds (r c n : Int) : AFun Tryd.prog Env40 3 [.int .u8 r, .int .i64 c, .int .i64 n] (.bool true) := by
  refine AFun.sized (by kernel_rfl) fun hz => ?_
  have h1 : 0 ≤ r ∧ r ≤ 255 := Sz_int.1 (hz (.int .u8 r) (by simp))
  exact a_law40_ReadingNeeds Env40 stabEnv40 (fun _ h => h.2) (fun _ h => h.1) r c n (ReadingNeeds_true r c n h1.1 h1.2)
theorem law_ReadingFits (r : Int) (n : T_arr3_Int) : AFun Tryd.prog Env40 6 [.int .u8 r, n.d] (.bool true) := by
  refine AFun.sized (by kernel_rfl) fun hz => ?_
  have h1 : 0 ≤ r ∧ r ≤ 255 := Sz_int.1 (hz (.int .u8 r) (by simp))
  exact a_law40_ReadingFits Env40 stabEnv40 (fun _ h => h.2) (fun _ h => h.1) r n (ReadingFits_true r n h1.1 h1.2)
end Go.Proofs.YtipdmcpmedmicaaDoor
