/- strings.Cut in the form of the generated contracts. -/
import Derived.Test.YtipdmcpmedmicaaDoorGN
import Derived.Test.YtipdmcpmedmicaaDoorFwPf
import Derived.Lib.CutLaws
set_option linter.unusedSimpArgs false
set_option linter.unusedVariables false
namespace Go.Proofs.YtipdmcpmedmicaaDoor
open Go.RowKit
set_option maxRecDepth 100000

theorem cut_len (s sep : List UInt8) : (Lib.cut s sep).1.length ≤ s.length ∧ (Lib.cut s sep).2.1.length ≤ s.length := by
  unfold Lib.cut
  split
  · exact ⟨by rw [List.length_take]; omega, by rw [List.length_drop]; omega⟩
  · exact ⟨Nat.le_refl _, Nat.zero_le _⟩
theorem rep_tup3 {w : World} {C : Cx} {u v x : Value} {d e f : D} (h : Rep w C u d) (k : Rep w C v e) (l : Rep w C x f) : Rep w C (.tuple #[u, v, x]) (.tup [d, e, f]) := by
  refine .tup [u, v, x] [d, e, f] rfl fun i x y hx hy => ?_
  match i, hx, hy with
  | 0, hx, hy => simp at hx hy; subst hx hy; exact h
  | 1, hx, hy => simp at hx hy; subst hx hy; exact k
  | 2, hx, hy => simp at hx hy; subst hx hy; exact l
  | (n + 3), hx, hy => simp at hx
theorem below_drewN (w : World) (n : Nat) : Below w.heap.size w (w.drewN n) := ⟨rfl, rfl, rfl, Nat.le_refl _, fun _ _ => rfl⟩
def g_strings_Cut (s sep : List UInt8) : Option (List UInt8 × List UInt8 × Bool) := if s.length < 4294967281 then some (Lib.cut s sep) else none
theorem a_strings_Cut (I : World → Prop) (hI : Stab I) (hShp : ∀ w, I w → Shp w) (s sep : List UInt8) {r : List UInt8 × List UInt8 × Bool} (h : g_strings_Cut s sep = some r) : AFun Tryd.prog I 72 [.str s, .str sep] (.tup [.str r.1, .str r.2.1, .bool r.2.2]) := by
  obtain ⟨hs, h⟩ := ite_on h
  obtain rfl := Option.some.inj h
  refine AFun.of_vals (by kernel_rfl) _ ?_
  intro w F args hIw _ hl hr
  match args, hl with
  | [v, u], _ =>
    obtain ⟨rfl, hs1⟩ := rep_str1 (hr 0 v _ rfl rfl)
    obtain ⟨rfl, _⟩ := rep_str1 (hr 1 u _ rfl rfl)
    obtain ⟨m, hm⟩ := hShp w hIw
    refine (Tryd.strings_Cut ⟨s.toArray⟩ ⟨sep.toArray⟩ m w (by simpa [ByteArray.size] using hs) hm).mono ?_
    rintro e w' ⟨rfl, n, rfl⟩
    have := cut_len s sep
    exact ⟨_, rfl, below_drewN w n, fun F => rep_tup3 (.str _ (by simpa using Nat.le_trans this.1 hs1)) (.str _ (by simpa using Nat.le_trans this.2 hs1)) (.bool _)⟩
end Go.Proofs.YtipdmcpmedmicaaDoor
