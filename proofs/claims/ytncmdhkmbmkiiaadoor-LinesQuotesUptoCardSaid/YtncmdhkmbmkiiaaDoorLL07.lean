/- The laws of layer 07: the functions' texts answer true. -/
import Derived.Test.YtncmdhkmbmkiiaaDoorL07f
import Derived.Test.YtncmdhkmbmkiiaaDoorL07g
import Derived.Test.YtncmdhkmbmkiiaaDoorL07h
import Derived.Test.YtncmdhkmbmkiiaaDoorL07i
import Derived.Test.YtncmdhkmbmkiiaaDoorOpn
import Derived.Test.YtncmdhkmbmkiiaaDoorLaid7
set_option linter.unusedSimpArgs false
set_option linter.unusedVariables false
namespace Go.Proofs.YtncmdhkmbmkiiaaDoor
set_option maxRecDepth 100000
theorem law_LinesSplits (s : List UInt8) : AFun Tryd.prog Env7 10 [.str s] (.bool true) :=
  a_law07_LinesSplits Env7 stabEnv7 (fun _ h => h.2.2) (fun _ h => h.2.1) s (LinesSplits_true s)
theorem law_LinesColumns (s : List UInt8) : AFun Tryd.prog Env7 12 [.str s] (.bool true) :=
  a_law07_LinesColumns Env7 stabEnv7 (fun _ h => h.2.2) (fun _ h => h.2.1) s (LinesColumns_true s)
theorem law_LinesNumbers (s : List UInt8) (n hi : Int) (hs : s.length ≤ 140737488351232) : AFun Tryd.prog Env7 14 [.str s, .int .i64 n, .int .i64 hi] (.bool true) := by
  refine AFun.sized (by kernel_rfl) fun hz => ?_
  have h := Sz_i64.1 (hz (.int .i64 n) (by simp))
  exact a_law07_LinesNumbers Env7 stabEnv7 (fun _ h => h.2.2) (fun _ h => h.2.1) (fun _ h => h.1) s n hi (LinesNumbers_true s n hi (by omega) h.1 h.2)
theorem law_LinesQuotes (s : List UInt8) (hs : s.length ≤ 1048576) : AFun Tryd.prog Env7 13 [.str s] (.bool true) :=
  a_law07_LinesQuotes Env7 stabEnv7 (fun _ h => h.2.2) (fun _ h => h.2.1) s (LinesQuotes_true s (by omega))
theorem law_LinesLong (n c : Int) : AFun Tryd.prog Env7 11 [.int .u16 n, .int .u8 c] (.bool true) := by
  refine AFun.sized (by kernel_rfl) fun hz => ?_
  have h1 : 0 ≤ n ∧ n ≤ 65535 := Sz_int.1 (hz (.int .u16 n) (by simp))
  have h2 : 0 ≤ c ∧ c ≤ 255 := Sz_int.1 (hz (.int .u8 c) (by simp))
  exact a_law07_LinesLong Env7 stabEnv7 (fun _ h => h.2.2) (fun _ h => h.2.1) n c (LinesLong_true n c h1.1 h1.2 h2.1 h2.2)
end Go.Proofs.YtncmdhkmbmkiiaaDoor
