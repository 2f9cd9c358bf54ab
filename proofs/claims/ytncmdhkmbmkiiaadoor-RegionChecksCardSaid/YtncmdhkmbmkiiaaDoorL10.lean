/- Layer 10, plain: what the generated definitions of layer 10 answer. -/
import Derived.Test.YtncmdhkmbmkiiaaDoorFwZ
import Derived.Test.YtncmdhkmbmkiiaaDoorGC
set_option linter.unusedSimpArgs false
set_option linter.unusedVariables false
namespace Go.Proofs.YtncmdhkmbmkiiaaDoor
set_option maxRecDepth 100000

/-- A byte of a name. -/
def nmB (b : UInt8) : Bool := (decide (65 ≤ b.toNat) && decide (b.toNat ≤ 90)) || (decide (48 ≤ b.toNat) && decide (b.toNat ≤ 57)) || b.toNat == 95 || b.toNat == 45
/-- Is it a name? -/
def isNm (s : List UInt8) : Bool := match s with
  | [] => false
  | b :: _ => decide (s.length ≤ 16) && (decide (65 ≤ b.toNat) && decide (b.toNat ≤ 90)) && s.all nmB
theorem isNm_at (s : List UInt8) (h1 : 1 ≤ s.length) : isNm s = true ↔ (s.length ≤ 16 ∧ (65 ≤ s[0].toNat ∧ s[0].toNat ≤ 90) ∧ ∀ i (h : i < s.length), nmB s[i] = true) := by
  match s, h1 with
  | b :: t, _ =>
    simp only [isNm, Bool.and_eq_true, decide_eq_true_eq, List.all_eq_true]
    constructor
    · rintro ⟨⟨h1, h2⟩, h3⟩
      exact ⟨h1, by simpa using h2, fun i h => h3 _ (List.getElem_mem h)⟩
    · rintro ⟨h1, h2, h3⟩
      refine ⟨⟨h1, by simpa using h2⟩, fun x hx => ?_⟩
      obtain ⟨i, hi, rfl⟩ := List.getElem_of_mem hx
      exact h3 i hi
theorem lines_Name_loop (s : List UInt8) (hs : s.length ≤ 16) : ∃ e, iter (g_lines_Name_s1 s) 0 = some e ∧ (e = .inr () ↔ ∀ i (h : i < s.length), nmB s[i] = true) := by
  refine iter_cnt s.length (by omega) (fun n => ∀ i (h : i < s.length), i < n → nmB s[i] = true) _ (by intro i _ h; omega) ?_ ?_
  · intro i hi hI
    have hw := wrap_i64 ((i : Int) + 1) (by omega) (by omega)
    simp only [g_lines_Name_s1, atI_nat hi, Option.bind_some, hw]
    have hb := u8lt s[i]
    have hk : nmB s[i] = true ∨ nmB s[i] = false := by cases nmB s[i] <;> simp
    rcases hk with hk | hk
    · left
      refine ⟨?_, fun j hj hlt => ?_⟩
      · simp only [nmB] at hk; grind
      · by_cases hji : j = i
        · subst hji; exact hk
        · exact hI j hj (by omega)
    · right
      refine ⟨.inl (), ?_, ?_⟩
      · simp only [nmB] at hk; grind
      · simp only [reduceCtorEq, false_iff]
        intro h
        have := h i hi
        simp [hk] at this
  · intro hI
    refine ⟨.inr (), by simp [g_lines_Name_s1], ?_⟩
    simp only [true_iff]
    exact fun i h => hI i h h
theorem lines_Name_eq (s : List UInt8) : g_lines_Name s = some (isNm s) := by
  by_cases h0 : s.length < 1
  · match s, h0 with
    | [], _ => rfl
  · by_cases h1 : s.length ≤ 16
    · obtain ⟨e, he, hi⟩ := lines_Name_loop s h1
      have hn := isNm_at s (by omega)
      have h0' : atI s 0 = some s[0] := atI_nat (n := 0) (by omega)
      simp only [g_lines_Name, he, h0', Option.bind_some]
      rcases e with ⟨⟩ | ⟨⟩ <;> grind
    · have : isNm s = false := by
        cases hh : isNm s with
        | false => rfl
        | true => exact absurd ((isNm_at s (by omega)).1 hh).1 h1
      simp only [g_lines_Name, this]
      grind
theorem digit_eq (c : Int) : g_ref07_digit c = some (decide (48 ≤ c) && decide (c ≤ 57)) := by
  simp only [g_ref07_digit]; grind
theorem ref07_Name_loop (s : List UInt8) (hs : s.length ≤ 16) (hs1 : 1 ≤ s.length) : ∃ e, iter (g_ref07_Name_s1 s) 0 = some e ∧ (e = .inr () ↔ (65 ≤ s[0].toNat ∧ s[0].toNat ≤ 90) ∧ ∀ i (h : i < s.length), nmB s[i] = true) := by
  refine iter_cnt s.length (by omega) (fun n => (0 < n → 65 ≤ s[0].toNat ∧ s[0].toNat ≤ 90) ∧ ∀ i (h : i < s.length), i < n → nmB s[i] = true) _ ⟨by omega, by intro i _ h; omega⟩ ?_ ?_
  · intro i hi ⟨hI0, hI⟩
    have hw := wrap_i64 ((i : Int) + 1) (by omega) (by omega)
    simp only [g_ref07_Name_s1, atI_nat hi, Option.bind_some, hw, digit_eq]
    have hb := u8lt s[i]
    by_cases hk : nmB s[i] = true ∧ (i = 0 → 65 ≤ s[0].toNat ∧ s[0].toNat ≤ 90)
    · left
      obtain ⟨hk, hk0⟩ := hk
      refine ⟨?_, fun _ => ?_, fun j hj hlt => ?_⟩
      · simp only [nmB] at hk
        by_cases h0 : i = 0
        · subst h0; grind
        · grind
      · by_cases h0 : i = 0
        · exact hk0 h0
        · exact hI0 (by omega)
      · by_cases hji : j = i
        · subst hji; exact hk
        · exact hI j hj (by omega)
    · right
      refine ⟨.inl (), ?_, ?_⟩
      · simp only [nmB] at hk
        by_cases h0 : i = 0
        · subst h0; grind
        · grind
      · simp only [reduceCtorEq, false_iff]
        rintro ⟨h1, h2⟩
        exact hk ⟨h2 i hi, fun _ => h1⟩
  · intro ⟨hI0, hI⟩
    refine ⟨.inr (), by simp [g_ref07_Name_s1], ?_⟩
    simp only [true_iff]
    exact ⟨hI0 (by omega), fun i h => hI i h h⟩
theorem ref07_Name_eq (s : List UInt8) : g_ref07_Name s = some (isNm s) := by
  by_cases h0 : s.length < 1
  · match s, h0 with
    | [], _ => rfl
  · by_cases h1 : s.length ≤ 16
    · obtain ⟨e, he, hi⟩ := ref07_Name_loop s h1 (by omega)
      have hn := isNm_at s (by omega)
      simp only [g_ref07_Name, he, Option.bind_some]
      rcases e with ⟨⟩ | ⟨⟩ <;> grind
    · have : isNm s = false := by
        cases hh : isNm s with
        | false => rfl
        | true => exact absurd ((isNm_at s (by omega)).1 hh).1 h1
      simp only [g_ref07_Name, this]
      grind
/-- The error of a region. -/
def chk (r : T_api_Region) : Int :=
  if isNm r.Name then
    if 0 ≤ r.Top ∧ r.Top ≤ 14 ∧ 1 ≤ r.Height ∧ r.Height ≤ 15 - r.Top ∧ 0 ≤ r.Left ∧ r.Left ≤ 31 ∧ 1 ≤ r.Width ∧ r.Width ≤ 32 - r.Left then
      if 1 ≤ r.Align ∧ r.Align ≤ 3 then 0 else 3
    else 2
  else 5
theorem from_eq (n a b : Int) : g_region_from n a b = some (decide (a ≤ n ∧ n ≤ b)) := by
  simp only [g_region_from]; grind
theorem margin_eq (n : Int) : g_ref10_margin n = some (decide (0 ≤ n ∧ n ≤ 32)) := by
  simp only [g_ref10_margin]; grind
theorem wrapTop {x : Int} (h : 0 ≤ x ∧ x ≤ 14) : IntKind.i64.wrap (15 - x) = 15 - x := wrap_i64 _ (by omega) (by omega)
theorem wrapLeft {x : Int} (h : 0 ≤ x ∧ x ≤ 31) : IntKind.i64.wrap (32 - x) = 32 - x := wrap_i64 _ (by omega) (by omega)
theorem region_Check_eq (r : T_api_Region) : g_region_Check r = some (chk r) := by
  simp only [g_region_Check, lines_Name_eq, from_eq, Option.bind_some, chk]
  by_cases h1 : 0 ≤ r.Top ∧ r.Top ≤ 14 <;> by_cases h2 : 0 ≤ r.Left ∧ r.Left ≤ 31
  · simp only [wrapTop h1, wrapLeft h2]; grind
  · simp only [wrapTop h1]; grind
  · grind
  · grind
theorem ref10_Check_eq (r : T_api_Region) : g_ref10_Check r = some (chk r) := by
  simp only [g_ref10_Check, ref07_Name_eq, Option.bind_some, chk]
  by_cases h1 : 0 ≤ r.Top ∧ r.Top ≤ 14 <;> by_cases h2 : 0 ≤ r.Left ∧ r.Left ≤ 31
  · simp only [wrapTop h1, wrapLeft h2]; grind
  · simp only [wrapTop h1]; grind
  · grind
  · grind
theorem CheckList_step (l : List T_api_Region) : g_region_CheckList_s1 l = g_ref10_CheckList_s1 l := by
  funext x
  simp only [g_region_CheckList_s1, g_ref10_CheckList_s1, region_Check_eq, ref10_Check_eq]
theorem CheckList_ends (l : List T_api_Region) (hl : l.length ≤ 16) : ∃ e, iter (g_ref10_CheckList_s1 l) 0 = some e := by
  refine iter_ends l.length (by omega) (fun i hi => ?_) ⟨.inr (), by simp [g_ref10_CheckList_s1]⟩
  have hw := wrap_i64 ((i : Int) + 1) (by omega) (by omega)
  have hw2 := wrap_i64 ((i : Int) - 1) (by omega) (by omega)
  simp only [g_ref10_CheckList_s1, atI_nat hi, Option.bind_some, ref10_Check_eq, hw, hw2]
  by_cases h0 : i = 0
  · subst h0; simp; grind
  · have h1 : atI l ((i : Int) - 1) = some (l[i - 1]'(by omega)) := by
      rw [show (i : Int) - 1 = ((i - 1 : Nat) : Int) by omega]; exact atI_nat _
    simp only [h1, Option.bind_some]
    grind
theorem CheckList_eq (l : List T_api_Region) : ∃ e, g_region_CheckList l = some e ∧ g_ref10_CheckList l = some e := by
  simp only [g_region_CheckList, g_ref10_CheckList, CheckList_step]
  by_cases h : (16 : Int) < (l.length : Int)
  · exact ⟨9, by simp [h], by simp [h]⟩
  · obtain ⟨e, he⟩ := CheckList_ends l (by omega)
    simp only [h, he, Option.bind_some]
    rcases e with e | ⟨⟩ <;> simp
theorem Find_step (l : List T_api_Region) (n : List UInt8) : g_region_Find_s1 l n = g_ref10_Find_s1 l n := rfl
theorem Find_eq (l : List T_api_Region) (n : List UInt8) (hl : l.length ≤ 9223372036854775807) : ∃ e, g_region_Find l n = some e ∧ g_ref10_Find l n = some e := by
  simp only [g_region_Find, g_ref10_Find, Find_step, g_region_Default, g_ref10_Default, Option.bind_some]
  by_cases h : (n == ([] : List UInt8)) = true
  · simp only [h, if_true]; exact ⟨_, rfl, rfl⟩
  · have : ∃ e, iter (g_ref10_Find_s1 l n) 0 = some e := by
      refine iter_ends l.length hl (fun i hi => ?_) ⟨.inr (), by simp [g_ref10_Find_s1]⟩
      have hw := wrap_i64 ((i : Int) + 1) (by omega) (by omega)
      simp only [g_ref10_Find_s1, atI_nat hi, Option.bind_some, hw]
      grind
    obtain ⟨e, he⟩ := this
    simp only [h, he, Option.bind_some]
    rcases e with e | ⟨⟩ <;> simp
theorem awake10 : g_law10_awake = some true := by decide +kernel
theorem Checks_loop (l : List T_api_Region) (hl : l.length ≤ 9223372036854775807) : iter (g_law10_RegionChecks_s1 l) 0 = some (.inr ()) := by
  obtain ⟨e, he, rfl⟩ := iter_cnt (step := g_law10_RegionChecks_s1 l) l.length hl (fun _ => True) (fun e => e = .inr ()) trivial (fun i hi _ => by
    left
    have hw := wrap_i64 ((i : Int) + 1) (by omega) (by omega)
    simp only [g_law10_RegionChecks_s1, atI_nat hi, Option.bind_some, hw, region_Check_eq, ref10_Check_eq]
    simp [hi]) (fun _ => ⟨.inr (), by simp [g_law10_RegionChecks_s1], rfl⟩)
  exact he
theorem RegionChecks_true (l : List T_api_Region) (n : List UInt8) (hl : l.length ≤ 9223372036854775807) : g_law10_RegionChecks l n = some true := by
  obtain ⟨c, h1, h2⟩ := CheckList_eq l
  obtain ⟨f, h3, h4⟩ := Find_eq l n hl
  simp only [g_law10_RegionChecks, awake10, h1, h2, h3, h4, Option.bind_some, g_region_Default, g_ref10_Default, Checks_loop l hl]
  simp
/-- A region that lies in the grid. -/
def geo (r : T_api_Region) : Prop := 0 ≤ r.Top ∧ r.Top ≤ 14 ∧ 1 ≤ r.Height ∧ r.Height ≤ 15 - r.Top ∧ 0 ≤ r.Left ∧ r.Left ≤ 31 ∧ 1 ≤ r.Width ∧ r.Width ≤ 32 - r.Left
def us (r : T_api_Region) : Bool := ((r.Name == []) && ((r.Top == 11) && ((r.Height == 4) && ((r.Left == 0) && ((r.Width == 32) && ((r.Align == 2) && (r.Bottom == true))))))) || chk r == 0
theorem usable_eq (r : T_api_Region) : g_region_usable r = some (us r) := by
  simp only [g_region_usable, g_region_Default, Option.bind_some, region_Check_eq, us]
  grind
theorem chk_geo {r : T_api_Region} (h : chk r = 0) : geo r := by
  unfold chk at h; unfold geo; grind
theorem us_geo {r : T_api_Region} (h : us r = true) : geo r := by
  simp only [us, Bool.or_eq_true, beq_iff_eq] at h
  rcases h with h | h
  · unfold geo; grind
  · exact chk_geo h
theorem us_chk {r : T_api_Region} (h : chk r = 0) : us r = true := by simp [us, h]
def ov (a b : T_api_Region) : Bool := us a && us b && decide (a.Top < b.Top + b.Height ∧ b.Top < a.Top + a.Height ∧ a.Left < b.Left + b.Width ∧ b.Left < a.Left + a.Width)
theorem geo_w1 {r : T_api_Region} (h : geo r) : IntKind.i64.wrap (r.Top + r.Height) = r.Top + r.Height := by unfold geo at h; exact wrap_i64 _ (by omega) (by omega)
theorem geo_w2 {r : T_api_Region} (h : geo r) : IntKind.i64.wrap (r.Left + r.Width) = r.Left + r.Width := by unfold geo at h; exact wrap_i64 _ (by omega) (by omega)
theorem Overlap_eq (a b : T_api_Region) : g_region_Overlap a b = some (ov a b) := by
  simp only [g_region_Overlap, usable_eq, Option.bind_some, ov]
  by_cases ha : us a = true <;> by_cases hb : us b = true
  · simp only [geo_w1 (us_geo ha), geo_w2 (us_geo ha), geo_w1 (us_geo hb), geo_w2 (us_geo hb), ha, hb]; grind
  all_goals grind
theorem tdiv2 {x : Int} (h : 0 ≤ x) : Int.tdiv x 2 = x / 2 := Int.tdiv_eq_ediv_of_nonneg h
/-- What is known of a placed row. -/
def spOk (r : T_api_Region) (lens : List Int) (b : Int) (j : Nat) (y : T_api_Spot) : Prop :=
  ∃ m, lens[j]? = some m ∧ 0 ≤ m ∧ m ≤ r.Width ∧ y.Len = m ∧ y.Row = b + j ∧ r.Left ≤ y.Col ∧ y.Col + m ≤ r.Left + r.Width
def acOk (r : T_api_Region) (lens : List Int) (b : Int) (acc : List T_api_Spot) : Prop := ∀ (j : Nat) (y : T_api_Spot), acc[j]? = some y → spOk r lens b j y
theorem acOk.snoc {r : T_api_Region} {lens : List Int} {b : Int} {acc : List T_api_Spot} (h : acOk r lens b acc) {y : T_api_Spot} (hy : spOk r lens b acc.length y) : acOk r lens b (acc ++ [y]) := by
  intro j z hz
  rw [List.getElem?_append] at hz
  split at hz
  · exact h j z hz
  · have : j = acc.length := by
      rcases Nat.lt_or_ge (j - acc.length) 1 with h1 | h1
      · omega
      · rw [List.getElem?_eq_none (by simpa using h1)] at hz; cases hz
    subst this
    simp at hz
    subst hz
    exact hy
def plOk (r : T_api_Region) (lens : List Int) (b : Int) (e : Int ⊕ List T_api_Spot) : Prop := match e with
  | .inl c => c ≠ 0
  | .inr l => l.length = lens.length ∧ acOk r lens b l
theorem Place_s1 (r : T_api_Region) (lens : List Int) (hg : geo r) (hl : (lens.length : Int) ≤ r.Height) : ∃ e, iter (g_region_Place_s1 r lens) ([], 0) = some e ∧ plOk r lens (r.Top + r.Height - lens.length) e := by
  unfold geo at hg
  refine iter_post (fun x => x.2 = (x.1.length : Int) ∧ x.1.length ≤ lens.length ∧ acOk r lens (r.Top + r.Height - lens.length) x.1) (fun x => lens.length - x.1.length) _ ⟨rfl, Nat.zero_le _, by intro j y h; simp at h⟩ (by show lens.length - _ < _; omega) ?_
  rintro ⟨acc, x⟩ ⟨hx, hle, hok⟩
  simp only at hx hle hok
  subst hx
  by_cases hlt : acc.length < lens.length
  · simp only [g_region_Place_s1, atI_nat hlt, Option.bind_some]
    have hat : lens[acc.length]? = some lens[acc.length] := List.getElem?_eq_getElem hlt
    generalize lens[acc.length] = m at hat
    have w1 := wrap_i64 ((acc.length : Int) + 1) (by omega) (by omega)
    have w2 := wrap_i64 (r.Height - (lens.length : Int)) (by omega) (by omega)
    have w3 := wrap_i64 (r.Top + (r.Height - (lens.length : Int))) (by omega) (by omega)
    have w4 := wrap_i64 (r.Top + (r.Height - (lens.length : Int)) + (acc.length : Int)) (by omega) (by omega)
    by_cases hm : 0 ≤ m ∧ m ≤ r.Width
    · left
      have w5 := wrap_i64 (r.Width - m) (by omega) (by omega)
      have w6 := wrap_i64 (r.Left + (r.Width - m)) (by omega) (by omega)
      have w7 := tdiv2 (x := r.Width - m) (by omega)
      have w8 := wrap_i64 ((r.Width - m) / 2) (by omega) (by omega)
      have w9 := wrap_i64 (r.Left + (r.Width - m) / 2) (by omega) (by omega)
      simp only [w1, w2, w3, w4, w5, w6, w7, w8, w9]
      have hd : decide ((acc.length : Int) < (lens.length : Int)) = true := by simp [hlt]
      have hn1 : decide (m < 0) = false := by simp; omega
      have hn2 : decide (r.Width < m) = false := by simp; omega
      have hsz : (acc.length + 1) * 24 ≤ 140737488355328 := by omega
      simp only [hd, hn1, hn2, hsz, if_true, if_false, Bool.false_eq_true]
      by_cases h3 : r.Align = 3
      · simp only [h3]
        refine ⟨_, rfl, ⟨by simp, by simp; omega, hok.snoc ⟨m, hat, hm.1, hm.2, rfl, by simp only; omega, by simp only; omega, by simp only; omega⟩⟩, by simp; omega⟩
      · by_cases h2 : r.Align = 2
        · simp only [h2]
          refine ⟨_, rfl, ⟨by simp, by simp; omega, hok.snoc ⟨m, hat, hm.1, hm.2, rfl, by simp only; omega, by simp only; omega, by simp only; omega⟩⟩, by simp; omega⟩
        · have e3 : (r.Align == 3) = false := by simpa using h3
          have e2 : (r.Align == 2) = false := by simpa using h2
          simp only [e3, e2, Bool.false_eq_true, if_false]
          refine ⟨_, rfl, ⟨by simp, by simp; omega, hok.snoc ⟨m, hat, hm.1, hm.2, rfl, by simp only; omega, by simp only; omega, by simp only; omega⟩⟩, by simp; omega⟩
    · right
      by_cases h0 : m < 0
      · exact ⟨.inl 2, by simp [hlt, h0], by simp [plOk]⟩
      · have : r.Width < m := by omega
        exact ⟨.inl 11, by simp [hlt, h0, this], by simp [plOk]⟩
  · right
    exact ⟨.inr acc, by simp [g_region_Place_s1, hlt], by omega, hok⟩
theorem Place_s2 (r : T_api_Region) (lens : List Int) (hg : geo r) (hl : (lens.length : Int) ≤ r.Height) : ∃ e, iter (g_region_Place_s2 r lens) ([], 0) = some e ∧ plOk r lens r.Top e := by
  unfold geo at hg
  refine iter_post (fun x => x.2 = (x.1.length : Int) ∧ x.1.length ≤ lens.length ∧ acOk r lens r.Top x.1) (fun x => lens.length - x.1.length) _ ⟨rfl, Nat.zero_le _, by intro j y h; simp at h⟩ (by show lens.length - _ < _; omega) ?_
  rintro ⟨acc, x⟩ ⟨hx, hle, hok⟩
  simp only at hx hle hok
  subst hx
  by_cases hlt : acc.length < lens.length
  · simp only [g_region_Place_s2, atI_nat hlt, Option.bind_some]
    have hat : lens[acc.length]? = some lens[acc.length] := List.getElem?_eq_getElem hlt
    generalize lens[acc.length] = m at hat
    have w1 := wrap_i64 ((acc.length : Int) + 1) (by omega) (by omega)
    have w4 := wrap_i64 (r.Top + (acc.length : Int)) (by omega) (by omega)
    by_cases hm : 0 ≤ m ∧ m ≤ r.Width
    · left
      have w5 := wrap_i64 (r.Width - m) (by omega) (by omega)
      have w6 := wrap_i64 (r.Left + (r.Width - m)) (by omega) (by omega)
      have w7 := tdiv2 (x := r.Width - m) (by omega)
      have w8 := wrap_i64 ((r.Width - m) / 2) (by omega) (by omega)
      have w9 := wrap_i64 (r.Left + (r.Width - m) / 2) (by omega) (by omega)
      simp only [w1, w4, w5, w6, w7, w8, w9]
      have hd : decide ((acc.length : Int) < (lens.length : Int)) = true := by simp [hlt]
      have hn1 : decide (m < 0) = false := by simp; omega
      have hn2 : decide (r.Width < m) = false := by simp; omega
      have hsz : (acc.length + 1) * 24 ≤ 140737488355328 := by omega
      simp only [hd, hn1, hn2, hsz, if_true, if_false, Bool.false_eq_true]
      by_cases h3 : r.Align = 3
      · simp only [h3]
        refine ⟨_, rfl, ⟨by simp, by simp; omega, hok.snoc ⟨m, hat, hm.1, hm.2, rfl, by simp only, by simp only; omega, by simp only; omega⟩⟩, by simp; omega⟩
      · by_cases h2 : r.Align = 2
        · simp only [h2]
          refine ⟨_, rfl, ⟨by simp, by simp; omega, hok.snoc ⟨m, hat, hm.1, hm.2, rfl, by simp only, by simp only; omega, by simp only; omega⟩⟩, by simp; omega⟩
        · have e3 : (r.Align == 3) = false := by simpa using h3
          have e2 : (r.Align == 2) = false := by simpa using h2
          simp only [e3, e2, Bool.false_eq_true, if_false]
          refine ⟨_, rfl, ⟨by simp, by simp; omega, hok.snoc ⟨m, hat, hm.1, hm.2, rfl, by simp only, by simp only; omega, by simp only; omega⟩⟩, by simp; omega⟩
    · right
      by_cases h0 : m < 0
      · exact ⟨.inl 2, by simp [hlt, h0], by simp [plOk]⟩
      · have : r.Width < m := by omega
        exact ⟨.inl 11, by simp [hlt, h0, this], by simp [plOk]⟩
  · right
    exact ⟨.inr acc, by simp [g_region_Place_s2, hlt], by omega, hok⟩
theorem Place_post (r : T_api_Region) (lens : List Int) : ∃ res, g_region_Place r lens = some res ∧ (res.2 ≠ 0 → res.1 = []) ∧ (res.2 = 0 → us r = true ∧ ∃ b, r.Top ≤ b ∧ b + lens.length ≤ r.Top + r.Height ∧ res.1.length = lens.length ∧ acOk r lens b res.1) := by
  simp only [g_region_Place, usable_eq, Option.bind_some]
  by_cases hu : us r = true
  · have hg := us_geo hu
    by_cases hh : r.Height < (lens.length : Int)
    · exact ⟨([], 9), by simp [hu, hh], by simp, by simp⟩
    · simp only [hu, hh, decide_false, Bool.false_eq_true, if_true, if_false]
      by_cases hb : r.Bottom = true
      · obtain ⟨e, he, hp⟩ := Place_s1 r lens hg (by omega)
        simp only [hb, if_true, he, Option.bind_some]
        rcases e with c | l
        · exact ⟨([], c), rfl, fun _ => rfl, fun h => absurd h hp⟩
        · exact ⟨(l, 0), rfl, fun h => absurd rfl h, fun _ => ⟨trivial, _, by omega, by omega, hp.1, hp.2⟩⟩
      · obtain ⟨e, he, hp⟩ := Place_s2 r lens hg (by omega)
        simp only [hb, if_false, Bool.false_eq_true, he, Option.bind_some]
        rcases e with c | l
        · exact ⟨([], c), rfl, fun _ => rfl, fun h => absurd h hp⟩
        · exact ⟨(l, 0), rfl, fun h => absurd rfl h, fun _ => ⟨trivial, _, Int.le_refl _, by omega, hp.1, hp.2⟩⟩
  · exact ⟨([], 1), by simp [hu], by simp, by simp⟩
theorem ov_comm (a b : T_api_Region) : ov a b = ov b a := by
  simp only [ov]; grind
theorem Cells_loop (r q : T_api_Region) (lens : List Int) (res : List T_api_Spot × Int) (b : Int) (hu : us r = true) (hb1 : r.Top ≤ b) (hb2 : b + lens.length ≤ r.Top + r.Height) (hlen : res.1.length = lens.length) (hok : acOk r lens b res.1) : iter (g_law10_RegionCells_s1 r q lens res) 0 = some (.inr ()) := by
  have hg := us_geo hu
  have hwT := geo_w1 hg
  have hwL := geo_w2 hg
  unfold geo at hg
  obtain ⟨e, he, rfl⟩ := iter_cnt (step := g_law10_RegionCells_s1 r q lens res) res.1.length (by omega) (fun _ => True) (fun e => e = .inr ()) trivial (fun i hi _ => by
    left
    refine ⟨?_, trivial⟩
    have hw := wrap_i64 ((i : Int) + 1) (by omega) (by omega)
    have hat : res.1[i]? = some res.1[i] := List.getElem?_eq_getElem hi
    obtain ⟨m, hm, h0, h1, h2, h3, h4, h5⟩ := hok i _ hat
    have hml : atI lens (i : Int) = some m := by simp [atI, hm]
    simp only [g_law10_RegionCells_s1, atI_nat hi, Option.bind_some, hml, hw, hwT, hwL, region_Check_eq, Overlap_eq]
    have hprev : (if (decide (0 < (i : Int))) then ((atI res.1 (IntKind.i64.wrap ((i : Int) - 1))).bind fun y427 => (some (res.1[i].Row != (IntKind.i64.wrap (y427.Row + 1))))) else (some false)) = some false := by
      by_cases hi0 : i = 0
      · subst hi0; simp
      · have hw2 := wrap_i64 ((i : Int) - 1) (by omega) (by omega)
        have hat2 : res.1[i - 1]? = some (res.1[i - 1]'(by omega)) := List.getElem?_eq_getElem (by omega)
        obtain ⟨m', hm', _, _, _, h3', _, _⟩ := hok (i - 1) _ hat2
        have h1' : atI res.1 ((i : Int) - 1) = some (res.1[i - 1]'(by omega)) := by
          rw [show (i : Int) - 1 = ((i - 1 : Nat) : Int) by omega]; exact atI_nat _
        rw [hw2, h1']
        have hw3 := wrap_i64 (res.1[i - 1].Row + 1) (by omega) (by omega)
        rw [h3'] at hw3
        simp only [Option.bind_some, h3, h3', hw3]
        have : b + (i : Int) = b + ((i - 1 : Nat) : Int) + 1 := by omega
        simp [this]
    rw [hprev]
    generalize res.1[i] = y at *
    have hw4 := wrap_i64 (y.Col + y.Len) (by omega) (by omega)
    simp only [hw4]
    by_cases hc : chk q = 0
    · have hgq := chk_geo hc
      have hqT := geo_w1 hgq
      have hqL := geo_w2 hgq
      simp only [hqT, hqL, hc, ov, hu, us_chk hc]
      grind
    · grind) (fun _ => ⟨.inr (), by simp [g_law10_RegionCells_s1], rfl⟩)
  exact he
theorem RegionCells_true (r q : T_api_Region) (lens : List Int) : g_law10_RegionCells r q lens = some true := by
  obtain ⟨res, h1, h2, h3⟩ := Place_post r lens
  simp only [g_law10_RegionCells, awake10, Option.bind_some, h1, if_true]
  by_cases hz : res.2 = 0
  · obtain ⟨hu, b, hb1, hb2, hlen, hok⟩ := h3 hz
    have hg := us_geo hu
    have hi : g_region_Inside r r.Top (IntKind.i64.wrap ((IntKind.i64.wrap (15 - r.Top)) - r.Height)) r.Left (IntKind.i64.wrap ((IntKind.i64.wrap (32 - r.Left)) - r.Width)) = some true := by
      have hwT := geo_w1 hg
      have hwL := geo_w2 hg
      unfold geo at hg
      have w1 := wrap_i64 (15 - r.Top) (by omega) (by omega)
      have w2 := wrap_i64 (15 - r.Top - r.Height) (by omega) (by omega)
      have w3 := wrap_i64 (32 - r.Left) (by omega) (by omega)
      have w4 := wrap_i64 (32 - r.Left - r.Width) (by omega) (by omega)
      have w5 := wrap_i64 (15 - (15 - r.Top - r.Height)) (by omega) (by omega)
      have w6 := wrap_i64 (32 - (32 - r.Left - r.Width)) (by omega) (by omega)
      simp only [g_region_Inside, usable_eq, hu, from_eq, Option.bind_some, w1, w2, w3, w4, w5, w6, hwT, hwL]
      grind
    simp only [hz, hlen, hi, Overlap_eq, ov_comm q r, Option.bind_some, Cells_loop r q lens res b hu hb1 hb2 hlen hok]
    simp
  · have := h2 hz
    simp [hz, this]
end Go.Proofs.YtncmdhkmbmkiiaaDoor
