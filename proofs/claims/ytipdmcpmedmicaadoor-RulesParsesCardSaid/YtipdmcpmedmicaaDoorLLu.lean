/- RulesTexts, RulesParses: the functions' texts answer true. -/
import Derived.Test.YtipdmcpmedmicaaDoorRU
import Derived.Test.YtipdmcpmedmicaaDoorOpn
import Derived.Test.YtipdmcpmedmicaaDoorLaid7
set_option linter.unusedSimpArgs false
set_option linter.unusedVariables false
namespace Go.Proofs.YtipdmcpmedmicaaDoor
set_option maxRecDepth 100000
theorem law_RulesTexts (l : List T_api_Finding) : AFun Tryd.prog Env7 9 [.sl (l.map T_api_Finding.d)] (.bool true) := by
  refine AFun.sized (by kernel_rfl) fun hz => ?_
  obtain ⟨h1, h2⟩ := Sz_sl.1 (hz (.sl (l.map T_api_Finding.d)) (by simp))
  rw [List.length_map] at h1
  refine a_law41_RulesTexts Env7 stabEnv7 (fun _ h => h.2.2) (fun _ h => h.2.1) (fun _ h => h.1) l (RulesTexts_true l h1 fun f hf => ?_)
  have key : ∀ d ∈ (T_api_Finding.d f).cells, Sz d := fun d hd => h2 d (List.mem_flatMap.2 ⟨T_api_Finding.d f, List.mem_map_of_mem hf, hd⟩)
  have k1 := Sz_i64.1 (key (.int .i64 f.ID) (by simp [T_api_Finding.d, D.cells]))
  have k2 := Sz_i64.1 (key (.int .i64 f.Other) (by simp [T_api_Finding.d, D.cells]))
  have k3 := Sz_i64.1 (key (.int .i64 f.Amount) (by simp [T_api_Finding.d, D.cells]))
  exact ⟨k1, k2, k3⟩
theorem law_RulesParses (s : List UInt8) : AFun Tryd.prog Env7 10 [.str s] (.bool true) := by
  refine AFun.sized (by kernel_rfl) fun hz => ?_
  have h1 := Sz_str.1 (hz (.str s) (by simp))
  exact a_law41_RulesParses Env7 stabEnv7 (fun _ h => h.2.2) (fun _ h => h.2.1) (fun _ h => h.1) s (RulesParses_true s h1)
end Go.Proofs.YtipdmcpmedmicaaDoor
