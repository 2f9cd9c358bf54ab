/- Contracts of Go's library in the form of the generated ones. -/
import Derived.Test.YtipdmcpmedmicaaDoorFwW
import Derived.Test.YtipdmcpmedmicaaDoorShelf
import Derived.Lib.ItoaLen
import Derived.Lib.IndexLaws
set_option linter.unusedSimpArgs false
set_option linter.unusedVariables false
namespace Go.Proofs.YtipdmcpmedmicaaDoor
open Go.RowKit
set_option maxRecDepth 100000

def g_strconv_FormatInt (n b : Int) : Option (List UInt8) := if b = 10 then some (Lib.itoa n) else none
theorem a_strconv_FormatInt (I : World → Prop) (hI : Stab I) (hTab : ∀ w, I w → Tab w) (n b : Int) {r : List UInt8} (h : g_strconv_FormatInt n b = some r) : AFun Tryd.prog I 92 [.int .i64 n, .int .i64 b] (.str r) := by
  obtain ⟨rfl, h⟩ := ite_on h
  obtain rfl := Option.some.inj h
  refine AFun.sized (by kernel_rfl) fun hz => ?_
  simp only [List.mem_cons, List.not_mem_nil, or_false, forall_eq_or_imp, forall_eq, Sz_i64] at hz
  obtain ⟨⟨h0, h1⟩, _⟩ := hz
  refine AFun.of_calls (v := .string ⟨(Lib.itoa n).toArray⟩) (by kernel_rfl) (fun w F => .str _ (by have := Lib.itoa_length_le n h0 h1; unfold maxLen; omega)) ?_
  intro w F args hIw _ hl hr
  match args, hl with
  | [v, u], _ =>
    obtain rfl := rep_int1 (hr 0 v _ rfl rfl)
    obtain rfl := rep_int1 (hr 1 u _ rfl rfl)
    refine (Tryd.strconv_FormatInt_10 n h0 h1 w (hTab w hIw)).mono ?_
    rintro e w' ⟨rfl, k, os, rfl⟩
    refine ⟨rfl, rfl, rfl, rfl, ?_, fun i hi => ?_⟩
    · simp [Go.Sort.grow]
    · simp [Go.Sort.grow, Array.getElem?_append, hi]
theorem flat_strs (l : List (List UInt8)) : (l.map D.str).flatMap D.cells = l.map D.str := by
  induction l with
  | nil => rfl
  | cons a t ih => simp only [List.map_cons, List.flatMap_cons, ih, D.cells, List.singleton_append]
theorem a_Join (I : World → Prop) (l : List (List UInt8)) (sep : List UInt8) (hne : l ≠ []) (h1 : l.length ≤ 140737488355328) (h2 : (Lib.join l sep).length ≤ 140737488355328) : AFun Tryd.prog I 54 [.sl (l.map D.str), .str sep] (.str (Lib.join l sep)) := by
  refine AFun.of_calls (v := .string ⟨(Lib.join l sep).toArray⟩) (by kernel_rfl) (fun w F => .str _ (by unfold maxLen; omega)) ?_
  intro w F args hI hfb hl hr
  match args, hl with
  | [v1, v2], _ =>
    obtain ⟨rfl, _⟩ := rep_str1 (hr 1 v2 _ rfl rfl)
    have hv := hr 0 v1 _ rfl rfl
    generalize hxs : l.map D.str = xs at hv
    cases hv with
    | sl0 A c hm => exact absurd (List.map_eq_nil_iff.1 hxs) hne
    | sl b off k c _ vals hc hm hk hlv hone hF hcell hrep =>
      subst hxs
      rw [flat_strs] at hlv hrep
      have hpos : 0 < vals.length := by rw [hlv, List.length_map]; exact List.length_pos_iff.2 hne
      have hb : b < w.heap.size := hfb b (off + 0) (hF 0 hpos)
      have hmm : (l.map fun s => (⟨s.toArray⟩ : ByteArray)).map (·.data.toList) = l := by rw [List.map_map]; exact List.map_id'' (fun s => by simp) l
      have := Tryd.strings_Join b off c (l.map fun s => (⟨s.toArray⟩ : ByteArray)) ⟨sep.toArray⟩ w (fun j x hx => by
        simp only [List.getElem?_map] at hx
        cases hj : l[j]? with
        | none => rw [hj] at hx; simp at hx
        | some s =>
          rw [hj] at hx
          simp at hx
          subst hx
          have hjl : j < vals.length := by rw [hlv, List.length_map]; exact (List.getElem?_eq_some_iff.1 hj).1
          have hv := hrep j _ (.str s) (List.getElem?_eq_getElem hjl) (by simp [hj])
          obtain ⟨hv, _⟩ := rep_str1 hv
          rw [hcell j _ (List.getElem?_eq_getElem hjl), hv]) hb (by simpa using h1) (by simpa using hc) (by rw [hmm]; exact h2)
      rw [hmm] at this
      simpa using this

def g_strings_Join (l : List (List UInt8)) (sep : List UInt8) : Option (List UInt8) := if l.length ≤ 140737488355328 ∧ (Lib.join l sep).length ≤ 140737488355328 then some (Lib.join l sep) else none
theorem a_strings_Join (I : World → Prop) (hI : Stab I) (l : List (List UInt8)) (sep : List UInt8) {r : List UInt8} (h : g_strings_Join l sep = some r) : AFun Tryd.prog I 54 [.sl (l.map D.str), .str sep] (.str r) := by
  unfold g_strings_Join at h
  obtain ⟨hc, h⟩ := ite_on h
  obtain rfl := Option.some.inj h
  by_cases hne : l = []
  · subst hne
    refine AFun.of_calls (v := .string ⟨#[]⟩) (by kernel_rfl) (fun w F => ?_) ?_
    · have : (Lib.join ([] : List (List UInt8)) sep) = [] := rfl
      rw [this]
      exact .str [] (by simp)
    · intro w F args hI hfb hl hr
      match args, hl with
      | [v1, v2], _ =>
        obtain ⟨rfl, _⟩ := rep_str1 (hr 1 v2 _ rfl rfl)
        have hv := hr 0 v1 _ rfl rfl
        simp only [List.map_nil] at hv
        cases hv with
        | sl0 A c hm =>
          refine (Tryd.strings_Join_none A c _ w).mono ?_
          rintro e w' ⟨rfl, rfl⟩
          exact ⟨rfl, Below.refl _ _⟩
        | sl b off k c _ vals hc hm hk hlv hone hF hcell hrep =>
          refine (Tryd.strings_Join_none _ c _ w).mono ?_
          rintro e w' ⟨rfl, rfl⟩
          exact ⟨rfl, Below.refl _ _⟩
  · exact a_Join I l sep hne hc.1 hc.2
def g_strings_IndexByte (s : List UInt8) (c : Int) : Option Int := some (Lib.indexByte s c.toNat.toUInt8)
theorem indexByte_lt : ∀ (s : List UInt8) (c : UInt8), Lib.indexByte s c ≤ s.length
  | [], _ => by simp [Lib.indexByte]
  | b :: l, c => by
    have := indexByte_lt l c
    simp only [Lib.indexByte, List.length_cons]
    split
    · omega
    · split <;> omega
theorem a_strings_IndexByte (I : World → Prop) (hI : Stab I) (s : List UInt8) (c : Int) {r : Int} (h : g_strings_IndexByte s c = some r) : AFun Tryd.prog I 150 [.str s, .int .u8 c] (.int .i64 r) := by
  obtain rfl := Option.some.inj h
  refine AFun.sized (by kernel_rfl) fun hz => ?_
  simp only [List.mem_cons, List.not_mem_nil, or_false, forall_eq_or_imp, forall_eq, Sz_str] at hz
  refine AFun.of_calls (v := .int .i64 (Lib.indexByte s c.toNat.toUInt8)) (by kernel_rfl) (fun w F => .int _ _ ?_) ?_
  · have h1 := indexByte_lt s c.toNat.toUInt8
    have h2 := Lib.indexByte_ge s c.toNat.toUInt8
    simp only [inR, kLo, kHi]
    omega
  · intro w F args hIw _ hl hr
    match args, hl with
    | [v, u], _ =>
      obtain ⟨rfl, _⟩ := rep_str1 (hr 0 v _ rfl rfl)
      obtain rfl := rep_int1 (hr 1 u _ rfl rfl)
      refine (Tryd.strings_IndexByte ⟨s.toArray⟩ c w).mono ?_
      rintro e w' ⟨rfl, rfl⟩
      exact ⟨by simp, Below.refl _ _⟩
end Go.Proofs.YtipdmcpmedmicaaDoor
