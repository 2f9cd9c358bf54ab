/- strconv.FormatInt in the framework's words. -/
import Derived.Test.YtipdmcpmedmicaaDoorFwW
import Derived.Test.YtipdmcpmedmicaaDoorTab
import Derived.Test.YtipdmcpmedmicaaDoorShelf
import Derived.Lib.ItoaLen
set_option linter.unusedSimpArgs false
set_option linter.unusedVariables false
namespace Go.Proofs.YtipdmcpmedmicaaDoor
open Go.RowKit
set_option maxRecDepth 100000

def g_strconv_FormatInt (n b : Int) : Option (List UInt8) := if b = 10 then some (Lib.itoa n) else none
theorem a_strconv_FormatInt (I : World → Prop) (hI : Stab I) (hTab : ∀ w, I w → Tab w) (n b : Int) {r : List UInt8} (h : g_strconv_FormatInt n b = some r) : AFun Tryd.prog I 92 [.int .i64 n, .int .i64 b] (.str r) := by
  obtain ⟨rfl, h⟩ := ite_on h
  obtain rfl := Option.some.inj h
  refine AFun.sized (by kernel_rfl) fun hz => ?_
  simp only [List.mem_cons, List.not_mem_nil, or_false, forall_eq_or_imp, forall_eq, Sz_i64] at hz
  obtain ⟨⟨h0, h1⟩, _⟩ := hz
  refine AFun.of_calls (v := .string ⟨(Lib.itoa n).toArray⟩) (by kernel_rfl) (fun w F => .str _ (by have := Lib.itoa_length_le n h0 h1; unfold maxLen; omega)) ?_
  intro w F args hIw _ hl hr
  match args, hl with
  | [v, u], _ =>
    obtain rfl := rep_int1 (hr 0 v _ rfl rfl)
    obtain rfl := rep_int1 (hr 1 u _ rfl rfl)
    refine (Tryd.strconv_FormatInt_10 n h0 h1 w (hTab w hIw)).mono ?_
    rintro e w' ⟨rfl, k, os, rfl⟩
    refine ⟨rfl, rfl, rfl, rfl, ?_, fun i hi => ?_⟩
    · simp [Go.Sort.grow]
    · simp [Go.Sort.grow, Array.getElem?_append, hi]
end Go.Proofs.YtipdmcpmedmicaaDoor
