/- The table of powers of ten, as the program lays it. No condition. -/
import Derived.Test.YtipdmcpmedmicaaDoorProg
import Derived.WalkKit
import Derived.KernelRfl
import Derived.Lib.LaidTab
import Derived.Lib.ItoaNum
set_option linter.unusedSimpArgs false
set_option linter.unusedVariables false
namespace Go.Proofs.YtipdmcpmedmicaaDoor
open Go.RowKit
set_option maxRecDepth 100000

/-- The table of powers of ten is as the program lays it. -/
abbrev Tab (w : World) : Prop := Lib.TabIs Tryd.prog w "internal/strconv.uint64pow10" .u64 Lib.pow10Tab
theorem gTab : Tryd.prog.globalNamed "internal/strconv.uint64pow10" = some 3 := by kernel_rfl
theorem tab_below_at {w w' : World} (h : Tab w) (hb : w'.heap[3]? = w.heap[3]?) : Tab w' := by
  unfold Tab Lib.TabIs World.var? at h ⊢
  rw [gTab] at h ⊢
  simp only [Option.bind_some] at h ⊢
  rw [hb]
  exact h
theorem tab_lt {w : World} (h : Tab w) : 3 < w.heap.size := by
  rcases Nat.lt_or_ge 3 w.heap.size with h1 | h1
  · exact h1
  · exfalso
    have h2 := h.cell gTab 0 (by decide)
    simp [World.cell?, Array.getElem?_eq_none h1] at h2
theorem tab_below {w w' : World} (h : Tab w) (hb : Below w.heap.size w w') : Tab w' := tab_below_at h (hb.block _ (tab_lt h))

end Go.Proofs.YtipdmcpmedmicaaDoor
