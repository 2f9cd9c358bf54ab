/- The laws of layer 10: the functions' texts answer true. -/
import Derived.Test.YtncmdhkmbmkiiaaDoorL10
import Derived.Test.YtncmdhkmbmkiiaaDoorOpn
set_option linter.unusedSimpArgs false
set_option linter.unusedVariables false
namespace Go.Proofs.YtncmdhkmbmkiiaaDoor
set_option maxRecDepth 100000
theorem law_RegionCells (r q : T_api_Region) (l : List Int) : AFun Tryd.prog Tab 8 [r.d, q.d, .sl (l.map (D.int .i64))] (.bool true) :=
  a_law10_RegionCells Tab stabTab (fun _ h => h) r q l (RegionCells_true r q l)
theorem law_RegionChecks (l : List T_api_Region) (n : List UInt8) : AFun Tryd.prog Tab 9 [.sl (l.map T_api_Region.d), .str n] (.bool true) := by
  refine AFun.sized (by kernel_rfl) fun hz => ?_
  have h := Sz_sl.1 (hz _ (List.mem_cons_self ..))
  rw [List.length_map] at h
  exact a_law10_RegionChecks Tab stabTab (fun _ h => h) l n (RegionChecks_true l n h.1)
end Go.Proofs.YtncmdhkmbmkiiaaDoor
