/- The text of a region: plain; no program in sight. -/
import Derived.Test.YtipdmcpmedmicaaDoorSpb
set_option linter.unusedSimpArgs false
set_option linter.unusedVariables false
namespace Go.Proofs.YtipdmcpmedmicaaDoor
set_option maxRecDepth 100000

theorem iterN_chain {X E : Type} {step : X → Option (Nx X E)} {e : E} : ∀ (n : Nat) (x : Nat → X) (k : Nat), k < n → (∀ i, i < k → step (x i) = some (.go (x (i + 1)))) → step (x k) = some (.out e) → iterN step n (x 0) = some e
  | 0, _, _, h, _, _ => by omega
  | n + 1, x, 0, _, _, h2 => by simp only [iterN, h2]
  | n + 1, x, k + 1, h, h1, h2 => by
    simp only [iterN, h1 0 (by omega)]
    exact iterN_chain n (fun i => x (i + 1)) k (by omega) (fun i hi => h1 (i + 1) (by omega)) h2
theorem iter_chain {X E : Type} {step : X → Option (Nx X E)} {e : E} (x : Nat → X) (k : Nat) (hk : k < 73786976294838206464) (h1 : ∀ i, i < k → step (x i) = some (.go (x (i + 1)))) (h2 : step (x k) = some (.out e)) : iter step (x 0) = some e := iterN_chain _ x k hk h1 h2

def alW (a : Int) : List UInt8 := if a = 1 then [76, 69, 70, 84] else if a = 2 then [67, 69, 78, 84, 69, 82] else [82, 73, 71, 72, 84]
def anW (b : Bool) : List UInt8 := if b = true then [66, 79, 84, 84, 79, 77] else [84, 79, 80]
def wds (r : T_api_Region) : List (List UInt8) := [r.Name, Lib.itoa r.Top, Lib.itoa r.Height, Lib.itoa r.Left, Lib.itoa r.Width, alW r.Align, anW r.Bottom]
def txt (r : T_api_Region) : List UInt8 := Lib.join (wds r) [32]
theorem Decimal_eq (n : Int) : g_lines_Decimal n = some (Lib.itoa n) := by
  simp [g_lines_Decimal, g_strconv_FormatInt]
theorem al_at {a : Int} (h : 1 ≤ a ∧ a ≤ 3) : atI [[76, 69, 70, 84], [67, 69, 78, 84, 69, 82], [82, 73, 71, 72, 84]] (IntKind.u8.wrap (a - 1)) = some (alW a) := by
  have : a = 1 ∨ a = 2 ∨ a = 3 := by omega
  rcases this with rfl | rfl | rfl <;> rfl
theorem chk_all {r : T_api_Region} (h : chk r = 0) : isNm r.Name = true ∧ (0 ≤ r.Top ∧ r.Top ≤ 14 ∧ 1 ≤ r.Height ∧ r.Height ≤ 15 - r.Top ∧ 0 ≤ r.Left ∧ r.Left ≤ 31 ∧ 1 ≤ r.Width ∧ r.Width ≤ 32 - r.Left) ∧ 1 ≤ r.Align ∧ r.Align ≤ 3 := by
  unfold chk at h
  split at h
  · rename_i h1
    split at h
    · rename_i h2
      split at h
      · rename_i h3; exact ⟨h1, h2, h3⟩
      · simp at h
    · simp at h
  · simp at h
theorem Text_loop (r : T_api_Region) : iter (g_region_Text_s1 r) (0, [r.Name]) = some [r.Name, Lib.itoa r.Top, Lib.itoa r.Height, Lib.itoa r.Left, Lib.itoa r.Width] := by
  refine iter_chain (fun i => ((i : Int), [r.Name, Lib.itoa r.Top, Lib.itoa r.Height, Lib.itoa r.Left, Lib.itoa r.Width].take (i + 1))) 4 (by omega) ?_ ?_
  · intro i hi
    match i, hi with
    | 0, _ => simp [g_region_Text_s1, atI, Decimal_eq]; rfl
    | 1, _ => simp [g_region_Text_s1, atI, Decimal_eq]; rfl
    | 2, _ => simp [g_region_Text_s1, atI, Decimal_eq]; rfl
    | 3, _ => simp [g_region_Text_s1, atI, Decimal_eq]; rfl
  · simp [g_region_Text_s1]
theorem nm_len {s : List UInt8} (h : isNm s = true) : 1 ≤ s.length ∧ s.length ≤ 16 := by
  cases s with
  | nil => simp [isNm] at h
  | cons b t => simp only [isNm, Bool.and_eq_true, decide_eq_true_eq] at h; exact ⟨by simp, h.1.1⟩
theorem txt_eq (r : T_api_Region) : txt r = r.Name ++ 32 :: (Lib.itoa r.Top ++ 32 :: (Lib.itoa r.Height ++ 32 :: (Lib.itoa r.Left ++ 32 :: (Lib.itoa r.Width ++ 32 :: (alW r.Align ++ 32 :: anW r.Bottom))))) := by
  unfold txt wds
  rw [Lib.join_cons]
  simp [Lib.joinTail]
theorem alW_len (a : Int) : (alW a).length ≤ 6 := by unfold alW; split <;> (try split) <;> simp
theorem anW_len (b : Bool) : (anW b).length ≤ 6 := by unfold anW; split <;> simp
theorem itoa_small {n : Int} (h0 : 0 ≤ n) (h1 : n ≤ 100) : (Lib.itoa n).length ≤ 21 := Lib.itoa_length_le n (by omega) (by omega)
theorem txt_len {r : T_api_Region} (h : chk r = 0) : (txt r).length ≤ 200 := by
  obtain ⟨h1, h2, h3⟩ := chk_all h
  have a1 := nm_len h1
  have a2 := itoa_small (n := r.Top) (by omega) (by omega)
  have a3 := itoa_small (n := r.Height) (by omega) (by omega)
  have a4 := itoa_small (n := r.Left) (by omega) (by omega)
  have a5 := itoa_small (n := r.Width) (by omega) (by omega)
  have a6 := alW_len r.Align
  have a7 := anW_len r.Bottom
  rw [txt_eq]
  simp only [List.length_append, List.length_cons]
  omega
theorem region_Text_eq (r : T_api_Region) : g_region_Text r = some (if chk r = 0 then (txt r, 0) else ([], chk r)) := by
  unfold g_region_Text
  rw [region_Check_eq]
  simp only [Option.bind_some]
  by_cases h : chk r = 0
  · obtain ⟨h1, h2, h3⟩ := chk_all h
    have hl := txt_len h
    have hj : ∀ b, Lib.join ([r.Name, Lib.itoa r.Top, Lib.itoa r.Height, Lib.itoa r.Left, Lib.itoa r.Width] ++ [alW r.Align, anW b]) [32] = txt { r with Bottom := b } := fun b => rfl
    have hl2 : ∀ b, (txt { r with Bottom := b }).length ≤ 200 := fun b => txt_len (r := { r with Bottom := b }) (by exact h)
    rw [if_neg (by simp [h]), if_pos h, Text_loop]
    simp only [Option.bind_some, g_region_aligns, al_at h3]
    cases hb : r.Bottom with
    | true =>
      simp only [if_true]
      rw [if_pos (by simp)]
      have := hj true
      simp only [anW, if_true] at this
      have hl3 := hl2 true
      unfold g_strings_Join
      rw [this, if_pos ⟨by simp, by omega⟩]
      simp only [Option.bind_some]
      have e : ({ r with Bottom := true } : T_api_Region) = r := by rw [← hb]
      rw [e]
    | false =>
      simp only [Bool.false_eq_true, if_false]
      rw [if_pos (by simp)]
      have := hj false
      simp only [anW, Bool.false_eq_true, if_false] at this
      have hl3 := hl2 false
      unfold g_strings_Join
      rw [this, if_pos ⟨by simp, by omega⟩]
      simp only [Option.bind_some]
      have e : ({ r with Bottom := false } : T_api_Region) = r := by rw [← hb]
      rw [e]
  · rw [if_pos (by simpa using h), if_neg h]
theorem rDec {n : Int} (h0 : 0 ≤ n) (h1 : n ≤ 100) : g_ref07_Decimal n = some (Lib.itoa n) := ref_Decimal_eq n (by omega) (by omega)
theorem ref10_Text_eq (r : T_api_Region) : g_ref10_Text r = some (if chk r = 0 then (txt r, 0) else ([], chk r)) := by
  unfold g_ref10_Text
  rw [ref10_Check_eq]
  simp only [Option.bind_some]
  by_cases h : chk r = 0
  · obtain ⟨h1, h2, h3⟩ := chk_all h
    have a1 := nm_len h1
    have a2 := itoa_small (n := r.Top) (by omega) (by omega)
    have a3 := itoa_small (n := r.Height) (by omega) (by omega)
    have a4 := itoa_small (n := r.Left) (by omega) (by omega)
    have a5 := itoa_small (n := r.Width) (by omega) (by omega)
    have a6 := alW_len r.Align
    rw [if_neg (by simp [h]), if_pos h, txt_eq]
    rw [rDec (n := r.Top) (by omega) (by omega), rDec (n := r.Height) (by omega) (by omega), rDec (n := r.Left) (by omega) (by omega), rDec (n := r.Width) (by omega) (by omega)]
    simp only [Option.bind_some, g_ref10_Aligns, al_at h3]
    cases hb : r.Bottom with
    | true =>
      simp only [if_true, anW]
      repeat rw [if_pos (by omega)]
      simp
    | false =>
      simp only [Bool.false_eq_true, if_false, anW]
      repeat rw [if_pos (by omega)]
      simp
  · rw [if_pos (by simpa using h), if_neg h]
end Go.Proofs.YtipdmcpmedmicaaDoor
