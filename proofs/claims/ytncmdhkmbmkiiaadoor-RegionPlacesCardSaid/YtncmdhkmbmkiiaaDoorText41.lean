/- Contracts of layer 41's Name and Text, and of layer 7's Decimal, of the program. At most 1048576 findings. -/
import Derived.Test.YtncmdhkmbmkiiaaDoorBld
import Derived.Test.YtncmdhkmbmkiiaaDoorRules1
import Derived.Lib.ItoaLen
import Derived.Deep.RegionHeld3
import Derived.Deep.DrawnRows
set_option linter.unusedSimpArgs false
set_option linter.unusedVariables false
namespace Go.Proofs.YtncmdhkmbmkiiaaDoor
open Go.RowKit
attribute [local go_sem ↓] Go.wp_at_zero Go.wp_at_succ

def nmTab : List (List UInt8) := [[82, 69, 65, 68, 73, 78, 71], [83, 72, 79, 82, 84], [76, 79, 78, 71], [71, 65, 80], [79, 86, 69, 82, 76, 65, 80], [83, 72, 79, 84], [82, 79, 87, 83], [67, 79, 76, 83], [67, 72, 65, 82, 83], [83, 65, 70, 69], [84, 79, 76, 69, 82, 65, 78, 67, 69], [84, 69, 82, 77]]
/-- The name of a rule; empty if there is none. -/
def nmL (r : Int) : List UInt8 := if 1 ≤ r ∧ r ≤ 12 then nmTab.getD (r - 1).toNat [] else []

/-- The table of powers of ten is as the program lays it. -/
abbrev Tab (w : World) : Prop := Lib.TabIs Tryd.prog w "internal/strconv.uint64pow10" .u64 Lib.pow10Tab
theorem gTab : Tryd.prog.globalNamed "internal/strconv.uint64pow10" = some 2 := by kernel_rfl
theorem tab_below_at {w w' : World} (h : Tab w) (hb : w'.heap[2]? = w.heap[2]?) : Tab w' := by
  unfold Tab Lib.TabIs World.var? at h ⊢
  rw [gTab] at h ⊢
  simp only [Option.bind_some] at h ⊢
  rw [hb]
  exact h
theorem tab_lt {w : World} (h : Tab w) : 2 < w.heap.size := by
  rcases Nat.lt_or_ge 2 w.heap.size with h1 | h1
  · exact h1
  · exfalso
    have h2 := h.cell gTab 0 (by decide)
    simp [World.cell?, Array.getElem?_eq_none h1] at h2
theorem tab_below {w w' : World} (h : Tab w) (hb : Below w.heap.size w w') : Tab w' := tab_below_at h (hb.block _ (tab_lt h))

/-- A number in decimal, as bytes. -/
def decB (n : Int) : ByteArray := ⟨(Lib.itoa n).toArray⟩
theorem decB_size (n : Int) (h0 : -9223372036854775808 ≤ n) (h1 : n ≤ 9223372036854775807) : (decB n).size ≤ 21 := by
  have := Lib.itoa_length_le n h0 h1
  simpa [decB, ByteArray.size] using this

theorem lines_Decimal (n : Int) (h0 : -9223372036854775808 ≤ n) (h1 : n ≤ 9223372036854775807) (w : World) (ht : Tab w) :
    Calls Tryd.prog 53 #[.int .i64 n] w fun e w' => e = .returned (.string (decB n)) ∧ Below w.heap.size w w' := by
  have HT := Lib.hid ht
  clear ht
  go_enter Tryd.func53, Tryd.ntmps53
  go_wp2_with (go_at_call 77; refine (Tryd.strconv_FormatInt_10 n h0 h1 _ HT.out).mono ?_)
  rintro e w' ⟨rfl, k, os, rfl⟩
  go_wp2
  go_ret
  refine ⟨rfl, rfl, rfl, rfl, ?_, fun i hi => ?_⟩
  · simp [Go.Sort.grow]
  · simp [Go.Sort.grow, Array.getElem?_append, hi]

/-- A rule's name, as bytes. -/
def nmB (r : Int) : ByteArray := ⟨(nmL r).toArray⟩
set_option maxHeartbeats 1000000 in
theorem rules_Name (r : Int) (w : World) (h0 : 0 ≤ r) (h1 : r ≤ 255) :
    Calls Tryd.prog 78 #[.int .u8 r] w fun e w' => e = .returned (.string (nmB r)) ∧ Below w.heap.size w w' := by
  by_cases h2 : r < 1
  · have HR : Hid (nmL r = []) := by rw [Hid, nmL, if_neg (by omega)]
    go_enter Tryd.func78, Tryd.ntmps78
    go_wp2
    go_ret
    exact ⟨ret_str HR.out.symm, Below.refl _ _⟩
  · by_cases h3 : 12 < r
    · have HR : Hid (nmL r = []) := by rw [Hid, nmL, if_neg (by omega)]
      go_enter Tryd.func78, Tryd.ntmps78
      go_wp2
      go_ret
      exact ⟨ret_str HR.out.symm, Below.refl _ _⟩
    · have h4 : r = 1 ∨ r = 2 ∨ r = 3 ∨ r = 4 ∨ r = 5 ∨ r = 6 ∨ r = 7 ∨ r = 8 ∨ r = 9 ∨ r = 10 ∨ r = 11 ∨ r = 12 := by omega
      clear h0 h1 h2 h3
      rcases h4 with rfl | rfl | rfl | rfl | rfl | rfl | rfl | rfl | rfl | rfl | rfl | rfl
      all_goals
        go_enter Tryd.func78, Tryd.ntmps78
        go_wp2
        go_ret
        exact ⟨rfl, bal (Below.refl _ _) _⟩

def txB (f : Fd) : ByteArray := ((((((nmB f.rule ++ ⟨#[32]⟩) ++ decB f.id) ++ ⟨#[32]⟩) ++ decB f.other) ++ ⟨#[32]⟩) ++ decB f.amount) ++ ⟨#[10]⟩
/-- The text of a finding. -/
def txLine (f : Fd) : List UInt8 := nmL f.rule ++ [32] ++ Lib.itoa f.id ++ [32] ++ Lib.itoa f.other ++ [32] ++ Lib.itoa f.amount ++ [10]
theorem txB_data (f : Fd) : (txB f).data.toList = txLine f := by simp [txB, txLine, nmB, decB]
end Go.Proofs.YtncmdhkmbmkiiaaDoor
