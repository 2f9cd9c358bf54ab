/- Names, plain: what the two texts of Name answer. -/
import Derived.Test.YtncmdhkmbmkiiaaDoorFwZ
import Derived.Test.YtncmdhkmbmkiiaaDoorGD
set_option linter.unusedSimpArgs false
set_option linter.unusedVariables false
namespace Go.Proofs.YtncmdhkmbmkiiaaDoor
set_option maxRecDepth 100000

/-- A byte of a name. -/
def nmB (b : UInt8) : Bool := (decide (65 ≤ b.toNat) && decide (b.toNat ≤ 90)) || (decide (48 ≤ b.toNat) && decide (b.toNat ≤ 57)) || b.toNat == 95 || b.toNat == 45
/-- Is it a name? -/
def isNm (s : List UInt8) : Bool := match s with
  | [] => false
  | b :: _ => decide (s.length ≤ 16) && (decide (65 ≤ b.toNat) && decide (b.toNat ≤ 90)) && s.all nmB
theorem isNm_at (s : List UInt8) (h1 : 1 ≤ s.length) : isNm s = true ↔ (s.length ≤ 16 ∧ (65 ≤ s[0].toNat ∧ s[0].toNat ≤ 90) ∧ ∀ i (h : i < s.length), nmB s[i] = true) := by
  match s, h1 with
  | b :: t, _ =>
    simp only [isNm, Bool.and_eq_true, decide_eq_true_eq, List.all_eq_true]
    constructor
    · rintro ⟨⟨h1, h2⟩, h3⟩
      exact ⟨h1, by simpa using h2, fun i h => h3 _ (List.getElem_mem h)⟩
    · rintro ⟨h1, h2, h3⟩
      refine ⟨⟨h1, by simpa using h2⟩, fun x hx => ?_⟩
      obtain ⟨i, hi, rfl⟩ := List.getElem_of_mem hx
      exact h3 i hi
theorem lines_Name_loop (s : List UInt8) (hs : s.length ≤ 16) : ∃ e, iter (g_lines_Name_s1 s) 0 = some e ∧ (e = .inr () ↔ ∀ i (h : i < s.length), nmB s[i] = true) := by
  refine iter_cnt s.length (by omega) (fun n => ∀ i (h : i < s.length), i < n → nmB s[i] = true) _ (by intro i _ h; omega) ?_ ?_
  · intro i hi hI
    have hw := wrap_i64 ((i : Int) + 1) (by omega) (by omega)
    simp only [g_lines_Name_s1, atI_nat hi, Option.bind_some, hw]
    have hb := u8lt s[i]
    have hk : nmB s[i] = true ∨ nmB s[i] = false := by cases nmB s[i] <;> simp
    rcases hk with hk | hk
    · left
      refine ⟨?_, fun j hj hlt => ?_⟩
      · simp only [nmB] at hk; grind
      · by_cases hji : j = i
        · subst hji; exact hk
        · exact hI j hj (by omega)
    · right
      refine ⟨.inl (), ?_, ?_⟩
      · simp only [nmB] at hk; grind
      · simp only [reduceCtorEq, false_iff]
        intro h
        have := h i hi
        simp [hk] at this
  · intro hI
    refine ⟨.inr (), by simp [g_lines_Name_s1], ?_⟩
    simp only [true_iff]
    exact fun i h => hI i h h
theorem lines_Name_eq (s : List UInt8) : g_lines_Name s = some (isNm s) := by
  by_cases h0 : s.length < 1
  · match s, h0 with
    | [], _ => rfl
  · by_cases h1 : s.length ≤ 16
    · obtain ⟨e, he, hi⟩ := lines_Name_loop s h1
      have hn := isNm_at s (by omega)
      have h0' : atI s 0 = some s[0] := atI_nat (n := 0) (by omega)
      simp only [g_lines_Name, he, h0', Option.bind_some]
      rcases e with ⟨⟩ | ⟨⟩ <;> grind
    · have : isNm s = false := by
        cases hh : isNm s with
        | false => rfl
        | true => exact absurd ((isNm_at s (by omega)).1 hh).1 h1
      simp only [g_lines_Name, this]
      grind
theorem digit_eq (c : Int) : g_ref07_digit c = some (decide (48 ≤ c) && decide (c ≤ 57)) := by
  simp only [g_ref07_digit]; grind
theorem ref07_Name_loop (s : List UInt8) (hs : s.length ≤ 16) (hs1 : 1 ≤ s.length) : ∃ e, iter (g_ref07_Name_s1 s) 0 = some e ∧ (e = .inr () ↔ (65 ≤ s[0].toNat ∧ s[0].toNat ≤ 90) ∧ ∀ i (h : i < s.length), nmB s[i] = true) := by
  refine iter_cnt s.length (by omega) (fun n => (0 < n → 65 ≤ s[0].toNat ∧ s[0].toNat ≤ 90) ∧ ∀ i (h : i < s.length), i < n → nmB s[i] = true) _ ⟨by omega, by intro i _ h; omega⟩ ?_ ?_
  · intro i hi ⟨hI0, hI⟩
    have hw := wrap_i64 ((i : Int) + 1) (by omega) (by omega)
    simp only [g_ref07_Name_s1, atI_nat hi, Option.bind_some, hw, digit_eq]
    have hb := u8lt s[i]
    by_cases hk : nmB s[i] = true ∧ (i = 0 → 65 ≤ s[0].toNat ∧ s[0].toNat ≤ 90)
    · left
      obtain ⟨hk, hk0⟩ := hk
      refine ⟨?_, fun _ => ?_, fun j hj hlt => ?_⟩
      · simp only [nmB] at hk
        by_cases h0 : i = 0
        · subst h0; grind
        · grind
      · by_cases h0 : i = 0
        · exact hk0 h0
        · exact hI0 (by omega)
      · by_cases hji : j = i
        · subst hji; exact hk
        · exact hI j hj (by omega)
    · right
      refine ⟨.inl (), ?_, ?_⟩
      · simp only [nmB] at hk
        by_cases h0 : i = 0
        · subst h0; grind
        · grind
      · simp only [reduceCtorEq, false_iff]
        rintro ⟨h1, h2⟩
        exact hk ⟨h2 i hi, fun _ => h1⟩
  · intro ⟨hI0, hI⟩
    refine ⟨.inr (), by simp [g_ref07_Name_s1], ?_⟩
    simp only [true_iff]
    exact ⟨hI0 (by omega), fun i h => hI i h h⟩
theorem ref07_Name_eq (s : List UInt8) : g_ref07_Name s = some (isNm s) := by
  by_cases h0 : s.length < 1
  · match s, h0 with
    | [], _ => rfl
  · by_cases h1 : s.length ≤ 16
    · obtain ⟨e, he, hi⟩ := ref07_Name_loop s h1 (by omega)
      have hn := isNm_at s (by omega)
      simp only [g_ref07_Name, he, Option.bind_some]
      rcases e with ⟨⟩ | ⟨⟩ <;> grind
    · have : isNm s = false := by
        cases hh : isNm s with
        | false => rfl
        | true => exact absurd ((isNm_at s (by omega)).1 hh).1 h1
      simp only [g_ref07_Name, this]
      grind
end Go.Proofs.YtncmdhkmbmkiiaaDoor
