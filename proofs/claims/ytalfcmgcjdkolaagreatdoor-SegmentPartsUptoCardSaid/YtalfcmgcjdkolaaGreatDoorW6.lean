/- Texts of one proof, put together (S1, S2, S3, S5, S4, S6, S7, S8, S9, S10, S11, Laid9, LSa, Opn, OpnB). No condition but those that each theorem states. -/
import Derived.Test.YtalfcmgcjdkolaaGreatDoorW5
import Derived.Lib.ValidLaws
import Derived.Lib.SlTrimSet
import Derived.Lib.Bytealg
import Derived.Test.YtalfcmgcjdkolaaGreatDoorCards
import Derived.Test.YtalfcmgcjdkolaaGreatDoorTie
import Derived.ProofKit
import Derived.OpenShut
import Derived.Deep.DeepHandedRow
import Derived.Lib.LaidIn
import Derived.Lib.LaidU8T
import Derived.Shelf.Vars
import Derived.Lib.SmallJoins
import Derived.Deep.Slices
import Derived.Deep.Fields
import Derived.Test.YtalfcmgcjdkolaaGreatDoorRows
set_option linter.unusedSimpArgs false
set_option linter.unusedVariables false
namespace Go.Proofs.YtalfcmgcjdkolaaGreatDoor
set_option maxRecDepth 100000
def nmB (b : UInt8) : Bool := (decide (65 ≤ b.toNat) && decide (b.toNat ≤ 90)) || (decide (48 ≤ b.toNat) && decide (b.toNat ≤ 57)) || b.toNat == 95 || b.toNat == 45
def isNm (s : List UInt8) : Bool := match s with
  | [] => false
  | b :: _ => decide (s.length ≤ 16) && (decide (65 ≤ b.toNat) && decide (b.toNat ≤ 90)) && s.all nmB
theorem isNm_at (s : List UInt8) (h1 : 1 ≤ s.length) : isNm s = true ↔ (s.length ≤ 16 ∧ (65 ≤ s[0].toNat ∧ s[0].toNat ≤ 90) ∧ ∀ i (h : i < s.length), nmB s[i] = true) := by
  match s, h1 with
  | b :: t, _ =>
    simp only [isNm, Bool.and_eq_true, decide_eq_true_eq, List.all_eq_true]
    constructor
    · rintro ⟨⟨h1, h2⟩, h3⟩
      exact ⟨h1, by simpa using h2, fun i h => h3 _ (List.getElem_mem h)⟩
    · rintro ⟨h1, h2, h3⟩
      refine ⟨⟨h1, by simpa using h2⟩, fun x hx => ?_⟩
      obtain ⟨i, hi, rfl⟩ := List.getElem_of_mem hx
      exact h3 i hi
theorem lines_Name_loop (s : List UInt8) (hs : s.length ≤ 16) : ∃ e, iter (g_lines_Name_s1 s) 0 = some e ∧ (e = .inr () ↔ ∀ i (h : i < s.length), nmB s[i] = true) := by
  refine iter_cnt s.length (by omega) (fun n => ∀ i (h : i < s.length), i < n → nmB s[i] = true) _ (by intro i _ h; omega) ?_ ?_
  · intro i hi hI
    have hw := wrap_i64 ((i : Int) + 1) (by omega) (by omega)
    simp only [g_lines_Name_s1, atI_nat hi, Option.bind_some, hw]
    have hb := u8lt s[i]
    have hk : nmB s[i] = true ∨ nmB s[i] = false := by cases nmB s[i] <;> simp
    rcases hk with hk | hk
    · left
      refine ⟨?_, fun j hj hlt => ?_⟩
      · simp only [nmB] at hk; grind
      · by_cases hji : j = i
        · subst hji; exact hk
        · exact hI j hj (by omega)
    · right
      refine ⟨.inl (), ?_, ?_⟩
      · simp only [nmB] at hk; grind
      · simp only [reduceCtorEq, false_iff]
        intro h
        have := h i hi
        simp [hk] at this
  · intro hI
    refine ⟨.inr (), by simp [g_lines_Name_s1], ?_⟩
    simp only [true_iff]
    exact fun i h => hI i h h
theorem lines_Name_eq (s : List UInt8) : g_lines_Name s = some (isNm s) := by
  by_cases h0 : s.length < 1
  · match s, h0 with
    | [], _ => rfl
  · by_cases h1 : s.length ≤ 16
    · obtain ⟨e, he, hi⟩ := lines_Name_loop s h1
      have hn := isNm_at s (by omega)
      have h0' : atI s 0 = some s[0] := atI_nat (n := 0) (by omega)
      simp only [g_lines_Name, he, h0', Option.bind_some]
      rcases e with ⟨⟩ | ⟨⟩ <;> grind
    · have : isNm s = false := by
        cases hh : isNm s with
        | false => rfl
        | true => exact absurd ((isNm_at s (by omega)).1 hh).1 h1
      simp only [g_lines_Name, this]
      grind
theorem digit_eq (c : Int) : g_ref07_digit c = some (decide (48 ≤ c) && decide (c ≤ 57)) := by
  simp only [g_ref07_digit]; grind
theorem ref07_Name_loop (s : List UInt8) (hs : s.length ≤ 16) (hs1 : 1 ≤ s.length) : ∃ e, iter (g_ref07_Name_s1 s) 0 = some e ∧ (e = .inr () ↔ (65 ≤ s[0].toNat ∧ s[0].toNat ≤ 90) ∧ ∀ i (h : i < s.length), nmB s[i] = true) := by
  refine iter_cnt s.length (by omega) (fun n => (0 < n → 65 ≤ s[0].toNat ∧ s[0].toNat ≤ 90) ∧ ∀ i (h : i < s.length), i < n → nmB s[i] = true) _ ⟨by omega, by intro i _ h; omega⟩ ?_ ?_
  · intro i hi ⟨hI0, hI⟩
    have hw := wrap_i64 ((i : Int) + 1) (by omega) (by omega)
    simp only [g_ref07_Name_s1, atI_nat hi, Option.bind_some, hw, digit_eq]
    have hb := u8lt s[i]
    by_cases hk : nmB s[i] = true ∧ (i = 0 → 65 ≤ s[0].toNat ∧ s[0].toNat ≤ 90)
    · left
      obtain ⟨hk, hk0⟩ := hk
      refine ⟨?_, fun _ => ?_, fun j hj hlt => ?_⟩
      · simp only [nmB] at hk
        by_cases h0 : i = 0
        · subst h0; grind
        · grind
      · by_cases h0 : i = 0
        · exact hk0 h0
        · exact hI0 (by omega)
      · by_cases hji : j = i
        · subst hji; exact hk
        · exact hI j hj (by omega)
    · right
      refine ⟨.inl (), ?_, ?_⟩
      · simp only [nmB] at hk
        by_cases h0 : i = 0
        · subst h0; grind
        · grind
      · simp only [reduceCtorEq, false_iff]
        rintro ⟨h1, h2⟩
        exact hk ⟨h2 i hi, fun _ => h1⟩
  · intro ⟨hI0, hI⟩
    refine ⟨.inr (), by simp [g_ref07_Name_s1], ?_⟩
    simp only [true_iff]
    exact ⟨hI0 (by omega), fun i h => hI i h h⟩
theorem ref07_Name_eq (s : List UInt8) : g_ref07_Name s = some (isNm s) := by
  by_cases h0 : s.length < 1
  · match s, h0 with
    | [], _ => rfl
  · by_cases h1 : s.length ≤ 16
    · obtain ⟨e, he, hi⟩ := ref07_Name_loop s h1 (by omega)
      have hn := isNm_at s (by omega)
      simp only [g_ref07_Name, he, Option.bind_some]
      rcases e with ⟨⟩ | ⟨⟩ <;> grind
    · have : isNm s = false := by
        cases hh : isNm s with
        | false => rfl
        | true => exact absurd ((isNm_at s (by omega)).1 hh).1 h1
      simp only [g_ref07_Name, this]
      grind
theorem decL_dec {l : List UInt8} (h : l ≠ []) : decL l = Lib.decodeL l := by
  unfold Lib.decodeL
  have := decL_eq l 0 ((List.length_pos_iff.2 h))
  rw [this]; simp
theorem decL_wd {l : List UInt8} (h : l ≠ []) : 1 ≤ (decL l).2 := by rw [decL_dec h]; exact Lib.decodeL_width l
theorem wd_pos {s : List UInt8} {p : Nat} (h : p < s.length) : 1 ≤ widthAt s p := by
  unfold widthAt
  refine decL_wd fun h0 => ?_
  have := congrArg List.length h0
  simp at this; omega
theorem place_same (s : List UInt8) (r : Int) : g_charset_place_s1 s r = g_ref08_Index_s1 r s := by
  funext x
  unfold g_charset_place_s1 g_ref08_Index_s1
  rfl
theorem place_total (s : List UInt8) (hs : s.length ≤ 1000) (r : Int) : ∃ e, iter (g_ref08_Index_s1 r s) (0, 0) = some e := by
  have := iter_post (step := g_ref08_Index_s1 r s) (fun x => 0 ≤ x.1 ∧ x.1 ≤ x.2) (fun x => s.length - x.2) (fun _ => True) (x := (0, 0)) ⟨Int.le_refl _, by simp⟩ (by show s.length - 0 < _; omega) ?_
  · obtain ⟨e, h, _⟩ := this; exact ⟨e, h⟩
  · rintro ⟨n, p⟩ ⟨h0, h1⟩
    dsimp only at h0 h1
    unfold g_ref08_Index_s1
    dsimp only
    by_cases hp : p < s.length
    · rw [if_pos (by simpa using hp)]
      by_cases hr : (runeAt s p == r) = true
      · right; rw [if_pos hr]; exact ⟨_, rfl, trivial⟩
      · left; rw [if_neg hr]
        have hw := wd_pos hp
        refine ⟨_, rfl, ?_, ?_⟩
        · dsimp only
          rw [wr64 (by omega)]
          omega
        · dsimp only; omega
    · right; rw [if_neg (by simpa using hp)]; exact ⟨_, rfl, trivial⟩
theorem Index_same (r : Int) : ∃ v, g_charset_Index r = some v ∧ g_ref08_Index r = some v := by
  unfold g_charset_Index g_ref08_Index g_charset_place
  by_cases h : 32 ≤ r ∧ r ≤ 126
  · rw [if_pos (by simpa using h.1)]
    simp only [Option.bind_some]
    rw [if_pos (by simpa using h.2), if_pos (by simpa using h.2)]
    exact ⟨_, rfl, rfl⟩
  · have : (if decide (32 ≤ r) = true then some (decide (r ≤ 126)) else some false : Option Bool) = some false := by
      by_cases h1 : 32 ≤ r
      · have : ¬ r ≤ 126 := fun h2 => h ⟨h1, h2⟩
        simp [h1, this]
      · simp [h1]
    rw [this]
    simp only [Option.bind_some, Bool.false_eq_true, if_false, place_same, g_ref08_Repertoire]
    obtain ⟨e, he⟩ := place_total g_ref08_Repertoire.get! (by decide) r
    simp only [g_ref08_Repertoire, Option.get!] at he
    rw [he]
    cases e <;> exact ⟨_, rfl, rfl⟩
def ixv (r : Int) : Int := (g_ref08_Index r).getD 0
theorem ix_eq (r : Int) : g_charset_Index r = some (ixv r) ∧ g_ref08_Index r = some (ixv r) := by
  obtain ⟨v, h1, h2⟩ := Index_same r
  unfold ixv
  rw [h2]
  exact ⟨h1, rfl⟩
theorem ixv_bad : g_ref08_Index 65533 = some (-1) := by decide +kernel
def gv (l : List UInt8) : Bool := if h : l = [] then true else decide (0 ≤ ixv (decL l).1) && gv (l.drop (decL l).2)
termination_by l.length
decreasing_by
  have := decL_wd h
  have := (List.length_pos_iff.2 h)
  simp; omega
theorem gv_nil : gv [] = true := by unfold gv; simp
theorem gv_ne {l : List UInt8} (h : l ≠ []) : gv l = (decide (0 ≤ ixv (decL l).1) && gv (l.drop (decL l).2)) := by
  rw [gv, dif_neg h]
theorem gv_loop {step : Nat → Option (Nx Nat (Unit ⊕ Unit))} (s : List UInt8) (hs : s.length < 73786976294838206464) (hst : ∀ p, step p = (if decide (p < s.length) = true then (if decide (ixv (runeAt s p) < 0) = true then some (.out (.inl ())) else some (.go (p + widthAt s p))) else some (.out (.inr ())))) :
    iter step 0 = some (if gv s then .inr () else .inl ()) := by
  refine iter_of (fun p e => e = if gv (s.drop p) then .inr () else .inl ()) (fun p => s.length - p) ?_ (x := 0) (by simp) (by show s.length - 0 < _; omega)
  rintro p e rfl
  rw [hst]
  by_cases hp : p < s.length
  · rw [if_pos (by simpa using hp)]
    have hne : s.drop p ≠ [] := fun h0 => by have := congrArg List.length h0; simp at this; omega
    by_cases hr : ixv (runeAt s p) < 0
    · right
      rw [if_pos (by simpa using hr), gv_ne hne]
      have : ¬ 0 ≤ ixv (decL (s.drop p)).1 := by unfold runeAt at hr; omega
      simp [this]
    · left
      rw [if_neg (by simpa using hr)]
      have hw := wd_pos hp
      refine ⟨_, rfl, ?_, by omega⟩
      rw [gv_ne hne]
      have : 0 ≤ ixv (decL (s.drop p)).1 := by unfold runeAt at hr; omega
      simp only [this, decide_true, Bool.true_and, List.drop_drop]
      rfl
  · right
    rw [if_neg (by simpa using hp), List.drop_eq_nil_of_le (by omega), gv_nil]; rfl
theorem ref_Valid_eq (s : List UInt8) (hs : s.length ≤ 140737488355328) : g_ref08_Valid s = some (gv s) := by
  unfold g_ref08_Valid
  rw [gv_loop s (by omega) (fun p => by unfold g_ref08_Valid_s1; simp only [(ix_eq _).2, Option.bind_some])]
  cases gv s <;> rfl
theorem gv_valid : ∀ (n : Nat) (l : List UInt8), l.length ≤ n → gv l = true → Lib.validD l = true := by
  intro n
  induction n with
  | zero => intro l hl _; have : l = [] := List.eq_nil_of_length_eq_zero (by omega); subst this; rfl
  | succ n ih =>
    intro l hl h
    by_cases hne : l = []
    · subst hne; rfl
    · rw [gv_ne hne, Bool.and_eq_true, decide_eq_true_eq] at h
      have hw := decL_wd hne
      have hlen := List.length_pos_iff.2 hne
      rw [Lib.validD_step l hne, ← decL_dec hne, if_neg]
      · exact ih _ (by simp; omega) h.2
      · rintro ⟨h1, _⟩
        have h2 := h.1
        rw [h1] at h2
        unfold ixv at h2
        rw [show (((65533 : Nat) : Nat) : Int) = 65533 from rfl, ixv_bad] at h2
        simp at h2
theorem prog_Valid_eq (s : List UInt8) (hs : s.length ≤ 140737488355328) : g_charset_Valid s = some (gv s) := by
  unfold g_charset_Valid g_unicode_utf8_ValidString
  simp only [Option.bind_some]
  rw [gv_loop s (by omega) (fun p => by unfold g_charset_Valid_s1; simp only [(ix_eq _).1, Option.bind_some])]
  cases hg : gv s
  · cases Lib.validD s <;> rfl
  · rw [gv_valid s.length s (Nat.le_refl _) hg]; rfl
def rnL (l : List UInt8) : List Int := if h : l = [] then [] else (((decL l).1 : Nat) : Int) :: rnL (l.drop (decL l).2)
termination_by l.length
decreasing_by
  have h1 := decL_wd h
  have h2 := List.length_pos_iff.2 h
  simp only [List.length_drop]; omega
theorem rnL_nil : rnL [] = [] := by unfold rnL; simp
theorem rnL_ne {l : List UInt8} (h : l ≠ []) : rnL l = (((decL l).1 : Nat) : Int) :: rnL (l.drop (decL l).2) := by rw [rnL, dif_neg h]
theorem rnL_at {s : List UInt8} {p : Nat} (h : p < s.length) : rnL (s.drop p) = runeAt s p :: rnL (s.drop (p + widthAt s p)) := by
  have hne : s.drop p ≠ [] := by
    intro e
    have := congrArg List.length e
    simp at this; omega
  rw [rnL_ne hne]
  unfold runeAt widthAt
  rw [List.drop_drop]
theorem rnL_end {s : List UInt8} {p : Nat} (h : s.length ≤ p) : rnL (s.drop p) = [] := by rw [List.drop_eq_nil_of_le h, rnL_nil]
theorem rnL_len : ∀ (n : Nat) (l : List UInt8), l.length ≤ n → (rnL l).length ≤ l.length
  | 0, l, h => by
    have : l = [] := List.eq_nil_of_length_eq_zero (by omega)
    subst this; rw [rnL_nil]; simp
  | n + 1, l, h => by
    by_cases hl : l = []
    · subst hl; rw [rnL_nil]; simp
    · have h1 := decL_wd hl
      have h2 := List.length_pos_iff.2 hl
      have ih := rnL_len n (l.drop (decL l).2) (by simp only [List.length_drop]; omega)
      rw [rnL_ne hl, List.length_cons]
      simp only [List.length_drop] at ih
      omega
theorem rnL_pos : ∀ (n : Nat) (l : List UInt8), l.length ≤ n → ∀ x ∈ rnL l, 0 ≤ x
  | 0, l, h => by
    have : l = [] := List.eq_nil_of_length_eq_zero (by omega)
    subst this; rw [rnL_nil]; simp
  | n + 1, l, h => by
    by_cases hl : l = []
    · subst hl; rw [rnL_nil]; simp
    · have h1 := decL_wd hl
      have h2 := List.length_pos_iff.2 hl
      have ih := rnL_pos n (l.drop (decL l).2) (by simp only [List.length_drop]; omega)
      rw [rnL_ne hl]
      intro x hx
      rcases List.mem_cons.1 hx with rfl | hx
      · omega
      · exact ih x hx
def ascF : Int → List Int → Bool
  | _, [] => true
  | a, x :: l => decide (a < x) && ascF x l
theorem runes_eq (s : List UInt8) (hs : s.length ≤ 1048576) : g_ref08_runes s = some (rnL s) := by
  unfold g_ref08_runes
  have key : iter (g_ref08_runes_s1 s) ([], 0) = some (rnL s) := by
    refine iter_of (fun x e => x.1.length ≤ x.2 ∧ x.1.length ≤ 1048576 ∧ e = x.1 ++ rnL (s.drop x.2)) (fun x => s.length - x.2) ?_ (x := ([], 0)) ⟨Nat.le_refl _, by simp, by simp⟩ (by show s.length - 0 < _; omega)
    rintro ⟨o, p⟩ e ⟨h1, h2, rfl⟩
    dsimp only at h1 h2 ⊢
    unfold g_ref08_runes_s1
    dsimp only
    by_cases h : p < s.length
    · left
      have hw : 1 ≤ widthAt s p := wd_pos h
      refine ⟨(o ++ [runeAt s p], p + widthAt s p), ?_, ⟨?_, ?_, ?_⟩, ?_⟩
      · rw [if_pos (by simpa using h), if_pos (by omega)]
      · simp; omega
      · simp; omega
      · dsimp only
        rw [rnL_at h, List.append_assoc]; rfl
      · dsimp only; omega
    · right
      rw [if_neg (by simpa using h), rnL_end (by omega)]
      simp
  rw [key]; rfl
theorem Chars_eq (s : List UInt8) (hs : s.length ≤ 1048576) : g_ref08_Chars s = some (if gv s then rnL s else []) := by
  unfold g_ref08_Chars
  rw [ref_Valid_eq s (by omega)]
  cases gv s
  · rfl
  · simp only [Option.bind_some, if_true]
    rw [runes_eq s hs]; rfl
theorem prog_asc (p : T_api_Profile) (hs : p.Forbidden.length ≤ 1048576) : iter (g_profile_Check_s2 p) (-1, 0) = some (if ascF (-1) (rnL p.Forbidden) then .inr () else .inl ()) := by
  refine iter_of (fun x e => e = if ascF x.1 (rnL (p.Forbidden.drop x.2)) then .inr () else .inl ()) (fun x => p.Forbidden.length - x.2) ?_ (x := (-1, 0)) (by simp) (by show p.Forbidden.length - 0 < _; omega)
  rintro ⟨a, q⟩ e rfl
  dsimp only
  unfold g_profile_Check_s2
  dsimp only
  by_cases h : q < p.Forbidden.length
  · have hw : 1 ≤ widthAt p.Forbidden q := wd_pos h
    rw [if_pos (by simpa using h), rnL_at h]
    by_cases hr : runeAt p.Forbidden q ≤ a
    · right
      rw [if_pos (by simpa using hr)]
      simp [ascF, show ¬ a < runeAt p.Forbidden q from by omega]
    · left
      rw [if_neg (by simpa using hr)]
      refine ⟨_, rfl, ?_, by dsimp only; omega⟩
      simp [ascF, show a < runeAt p.Forbidden q from by omega]
  · right
    rw [if_neg (by simpa using h), rnL_end (by omega)]
    simp [ascF]
theorem asc_at (l : List Int) {i : Nat} (h0 : 1 ≤ i) (h : i < l.length) : ascF (l[i - 1]'(by omega)) (l.drop i) = (decide (l[i - 1]'(by omega) < l[i]) && ascF l[i] (l.drop (i + 1))) := by
  rw [List.drop_eq_getElem_cons h]
  rfl
theorem ref_asc (l : List Int) (hl : l.length ≤ 1048576) (hp : ∀ x ∈ l, 0 ≤ x) : iter (g_ref39_Check_s1 l) 1 = some (if ascF (-1) l then .inr () else .inl ()) := by
  by_cases hn : l = []
  · subst hn
    refine iter_of (fun (x : Int) (e : Unit ⊕ Unit) => x = 1 ∧ e = .inr ()) (fun _ => 0) ?_ ⟨rfl, rfl⟩ (by omega)
    rintro x e ⟨rfl, rfl⟩
    right
    rfl
  · have hpos := List.length_pos_iff.2 hn
    have e0 : ascF (-1) l = ascF (l[0]'hpos) (l.drop 1) := by
      obtain ⟨a, t, rfl⟩ := List.exists_cons_of_ne_nil hn
      have := hp a (by simp)
      simp [ascF]; intro; omega
    rw [e0]
    refine iter_of (fun (x : Int) e => ∃ (i : Nat) (h1 : 1 ≤ i) (h2 : i ≤ l.length), x = (i : Int) ∧ e = if ascF (l[i - 1]'(by omega)) (l.drop i) then Sum.inr () else Sum.inl ()) (fun x => l.length - x.toNat) ?_ (x := 1) ⟨1, Nat.le_refl _, hpos, rfl, rfl⟩ (by show l.length - _ < _; omega)
    rintro x e ⟨i, h1, h2, rfl, rfl⟩
    unfold g_ref39_Check_s1
    by_cases h : i < l.length
    · rw [if_pos (by simpa using h), atI_nat h]
      have e1 : IntKind.i64.wrap ((i : Int) - 1) = ((i - 1 : Nat) : Int) := by rw [wr64 (by omega)]; omega
      simp only [Option.bind_some, e1]
      rw [atI_nat (show i - 1 < l.length by omega), asc_at l h1 h]
      simp only [Option.bind_some]
      by_cases hr : l[i] ≤ l[i - 1]'(by omega)
      · right
        rw [if_pos (by simpa using hr)]
        simp [show ¬ (l[i - 1]'(by omega) < l[i]) from by omega]
      · left
        rw [if_neg (by simpa using hr)]
        refine ⟨((i + 1 : Nat) : Int), by rw [wr64 (by omega)]; rfl, ⟨i + 1, by omega, h, rfl, ?_⟩, by omega⟩
        simp [show l[i - 1]'(by omega) < l[i] from by omega]
    · right
      rw [if_neg (by simpa using h)]
      have : i = l.length := by omega
      subst this
      simp [ascF]
def okR (p : T_api_Profile) : Prop := (1 ≤ p.Reading ∧ p.Reading ≤ 10000) ∧ (1 ≤ p.MinFrames ∧ p.MinFrames ≤ 5184000) ∧ (1 ≤ p.MaxFrames ∧ p.MaxFrames ≤ 5184000) ∧ (0 ≤ p.MinGap ∧ p.MinGap ≤ 1000) ∧ (0 ≤ p.ShotBefore ∧ p.ShotBefore ≤ 1000) ∧ (0 ≤ p.ShotAfter ∧ p.ShotAfter ≤ 1000) ∧ (1 ≤ p.Rows ∧ p.Rows ≤ 4) ∧ (1 ≤ p.Cols ∧ p.Cols ≤ 32) ∧ (0 ≤ p.SafeTop ∧ p.SafeTop ≤ 31) ∧ (0 ≤ p.SafeBottom ∧ p.SafeBottom ≤ 31) ∧ (0 ≤ p.SafeLeft ∧ p.SafeLeft ≤ 31) ∧ (0 ≤ p.SafeRight ∧ p.SafeRight ≤ 31)
instance (p : T_api_Profile) : Decidable (okR p) := by unfold okR; infer_instance
def ckS (p : T_api_Profile) : Int :=
  if isNm p.Name = false then 5 else if ¬ okR p then 2 else if 15 ≤ p.SafeTop + p.SafeBottom ∨ 32 ≤ p.SafeLeft + p.SafeRight then 2 else if p.MaxFrames < p.MinFrames then 8 else if gv p.Forbidden = false then 10 else if ascF (-1) (rnL p.Forbidden) then 0 else 8
def lmL (p : T_api_Profile) : List T_profile_limit := [⟨p.Reading, 1, 10000⟩, ⟨p.MinFrames, 1, 5184000⟩, ⟨p.MaxFrames, 1, 5184000⟩, ⟨p.MinGap, 0, 1000⟩, ⟨p.ShotBefore, 0, 1000⟩, ⟨p.ShotAfter, 0, 1000⟩, ⟨p.Rows, 1, 4⟩, ⟨p.Cols, 1, 32⟩, ⟨p.SafeTop, 0, 31⟩, ⟨p.SafeBottom, 0, 31⟩, ⟨p.SafeLeft, 0, 31⟩, ⟨p.SafeRight, 0, 31⟩]
theorem limits_eq (p : T_api_Profile) : g_profile_limits p = some (lmL p) := by
  unfold g_profile_limits
  rw [show iter (g_profile_limits_s1 p) (0, [(T_profile_limit.mk p.Reading 1 10000), (T_profile_limit.mk p.MinFrames 1 5184000), (T_profile_limit.mk p.MaxFrames 1 5184000), (T_profile_limit.mk p.MinGap 0 1000), (T_profile_limit.mk p.ShotBefore 0 1000), (T_profile_limit.mk p.ShotAfter 0 1000), (T_profile_limit.mk p.Rows 1 4), (T_profile_limit.mk p.Cols 1 32)]) = some (lmL p) from rfl]
  rfl
theorem limits_loop (l : List T_profile_limit) (hl : l.length ≤ 1048576) : iter (g_profile_Check_s1 l) 0 = some (if l.all fun y => decide (y.lo_ ≤ y.n_) && decide (y.n_ ≤ y.hi_) then .inr () else .inl ()) := by
  have := iter_idx (step := g_profile_Check_s1 l) l.length (by omega) (fun i => if (l.drop i).all fun y => decide (y.lo_ ≤ y.n_) && decide (y.n_ ≤ y.hi_) then .inr () else .inl ()) (fun i hi => ?_) ?_
  · simpa using this
  · unfold g_profile_Check_s1
    rw [if_pos (by simpa using hi), atI_nat hi, List.drop_eq_getElem_cons hi, wr64 (by omega)]
    simp only [Option.bind_some, List.all_cons]
    by_cases h1 : l[i].n_ < l[i].lo_
    · right; simp [h1, show ¬ l[i].lo_ ≤ l[i].n_ from by omega]
    · by_cases h2 : l[i].hi_ < l[i].n_
      · right; simp [h1, h2, show ¬ l[i].n_ ≤ l[i].hi_ from by omega]
      · left; simp [h1, h2, show l[i].lo_ ≤ l[i].n_ from by omega, show l[i].n_ ≤ l[i].hi_ from by omega]
  · unfold g_profile_Check_s1
    rw [if_neg (by simp)]
    simp
theorem lm_all (p : T_api_Profile) : ((lmL p).all fun y => decide (y.lo_ ≤ y.n_) && decide (y.n_ ≤ y.hi_)) = decide (okR p) := by
  rw [Bool.eq_iff_iff, decide_eq_true_iff]
  unfold lmL okR
  simp only [List.all_cons, List.all_nil, Bool.and_true, Bool.and_eq_true, decide_eq_true_eq]
theorem prog_Check (p : T_api_Profile) (h1 : p.Name.length ≤ 1048576) (h2 : p.Forbidden.length ≤ 1048576) : g_profile_Check p = some (ckS p) := by
  unfold g_profile_Check ckS
  rw [lines_Name_eq p.Name, limits_eq, prog_Valid_eq p.Forbidden (by omega)]
  simp only [Option.bind_some]
  cases hn : isNm p.Name
  · rfl
  rw [limits_loop _ (by simp [lmL]), lm_all, prog_asc p h2]
  simp only [Option.bind_some, if_true, Bool.true_eq_false, if_false]
  by_cases hr : okR p
  · have hr' := hr
    unfold okR at hr'
    rw [wr64 (by omega), wr64 (by omega)]
    simp only [hr, decide_true, if_true, not_true, if_false]
    by_cases q1 : 15 ≤ p.SafeTop + p.SafeBottom
    · simp [q1]
    · by_cases q2 : 32 ≤ p.SafeLeft + p.SafeRight
      · simp [q1, q2]
      · simp only [q1, q2, decide_false, Bool.false_eq_true, if_false, Option.bind_some, false_or]
        by_cases q3 : p.MaxFrames < p.MinFrames
        · simp [q3]
        · simp only [q3, decide_false, Bool.false_eq_true, if_false]
          cases gv p.Forbidden
          · rfl
          · cases ascF (-1) (rnL p.Forbidden) <;> rfl
  · simp only [hr, decide_false, Bool.false_eq_true, if_false, not_false_eq_true, if_true]
theorem within_eq (n lo hi : Int) : g_ref39_within n lo hi = some (decide (lo ≤ n ∧ n ≤ hi)) := by
  unfold g_ref39_within
  by_cases h : lo ≤ n <;> simp [h]
theorem inside_eq (n lo hi : Int) : g_ref39_inside n lo hi = some (decide (lo ≤ n ∧ n ≤ hi)) := by
  unfold g_ref39_inside
  by_cases h : lo ≤ n <;> simp [h]
theorem ref_Check (p : T_api_Profile) (h1 : p.Name.length ≤ 1048576) (h2 : p.Forbidden.length ≤ 1048576) : g_ref39_Check p = some (ckS p) := by
  unfold g_ref39_Check ckS
  rw [ref07_Name_eq p.Name, ref_Valid_eq p.Forbidden (by omega), Chars_eq p.Forbidden h2]
  simp only [Option.bind_some, within_eq, inside_eq]
  cases hn : isNm p.Name
  · rfl
  simp only [if_true, Bool.true_eq_false, if_false]
  by_cases hr : okR p
  · have hr' := hr
    unfold okR at hr'
    obtain ⟨a1, a2, a3, a4, a5, a6, a7, a8, a9, b1, b2, b3⟩ := hr'
    rw [wr64 (by omega), wr64 (by omega)]
    simp only [a1, a2, a3, a4, a5, a6, a7, a8, a9, b1, b2, b3, and_self, decide_true, if_true, Bool.not_true, Bool.false_eq_true, if_false, Option.bind_some, hr, not_true]
    by_cases q1 : 15 ≤ p.SafeTop + p.SafeBottom
    · simp [q1, show 14 < p.SafeTop + p.SafeBottom from by omega]
    · by_cases q2 : 32 ≤ p.SafeLeft + p.SafeRight
      · simp [q1, q2, show ¬ 14 < p.SafeTop + p.SafeBottom from by omega, show 31 < p.SafeLeft + p.SafeRight from by omega]
      · simp only [q1, q2, show ¬ 14 < p.SafeTop + p.SafeBottom from by omega, show ¬ 31 < p.SafeLeft + p.SafeRight from by omega, decide_false, Bool.false_eq_true, if_false, Option.bind_some, false_or]
        by_cases q3 : p.MaxFrames < p.MinFrames
        · simp [q3]
        · simp only [q3, decide_false, Bool.false_eq_true, if_false]
          cases hg : gv p.Forbidden
          · rfl
          · simp only [if_true, Option.bind_some]
            rw [ref_asc _ (Nat.le_trans (rnL_len _ _ (Nat.le_refl _)) h2) (rnL_pos _ _ (Nat.le_refl _))]
            cases ascF (-1) (rnL p.Forbidden) <;> rfl
  · have hr' := hr
    unfold okR at hr'
    simp only [hr, not_false_eq_true, if_true]
    by_cases c0 : 1 ≤ p.Reading ∧ p.Reading ≤ 10000
    rotate_left
    · simp only [c0, decide_false, Bool.false_eq_true, if_false, Bool.not_false, Option.bind_some, if_true]
    simp only [c0, and_self, decide_true, if_true, Option.bind_some, Bool.not_true, Bool.false_eq_true, if_false]
    by_cases c1 : 1 ≤ p.MinFrames ∧ p.MinFrames ≤ 5184000
    rotate_left
    · simp only [c1, decide_false, Bool.false_eq_true, if_false, Bool.not_false, Option.bind_some, if_true]
    simp only [c1, and_self, decide_true, if_true, Option.bind_some, Bool.not_true, Bool.false_eq_true, if_false]
    by_cases c2 : 1 ≤ p.MaxFrames ∧ p.MaxFrames ≤ 5184000
    rotate_left
    · simp only [c2, decide_false, Bool.false_eq_true, if_false, Bool.not_false, Option.bind_some, if_true]
    simp only [c2, and_self, decide_true, if_true, Option.bind_some, Bool.not_true, Bool.false_eq_true, if_false]
    by_cases c3 : 0 ≤ p.MinGap ∧ p.MinGap ≤ 1000
    rotate_left
    · simp only [c3, decide_false, Bool.false_eq_true, if_false, Bool.not_false, Option.bind_some, if_true]
    simp only [c3, and_self, decide_true, if_true, Option.bind_some, Bool.not_true, Bool.false_eq_true, if_false]
    by_cases c4 : 0 ≤ p.ShotBefore ∧ p.ShotBefore ≤ 1000
    rotate_left
    · simp only [c4, decide_false, Bool.false_eq_true, if_false, Bool.not_false, Option.bind_some, if_true]
    simp only [c4, and_self, decide_true, if_true, Option.bind_some, Bool.not_true, Bool.false_eq_true, if_false]
    by_cases c5 : 0 ≤ p.ShotAfter ∧ p.ShotAfter ≤ 1000
    rotate_left
    · simp only [c5, decide_false, Bool.false_eq_true, if_false, Bool.not_false, Option.bind_some, if_true]
    simp only [c5, and_self, decide_true, if_true, Option.bind_some, Bool.not_true, Bool.false_eq_true, if_false]
    by_cases c6 : 1 ≤ p.Rows ∧ p.Rows ≤ 4
    rotate_left
    · simp only [c6, decide_false, Bool.false_eq_true, if_false, Bool.not_false, Option.bind_some, if_true]
    simp only [c6, and_self, decide_true, if_true, Option.bind_some, Bool.not_true, Bool.false_eq_true, if_false]
    by_cases c7 : 1 ≤ p.Cols ∧ p.Cols ≤ 32
    rotate_left
    · simp only [c7, decide_false, Bool.false_eq_true, if_false, Bool.not_false, Option.bind_some, if_true]
    simp only [c7, and_self, decide_true, if_true, Option.bind_some, Bool.not_true, Bool.false_eq_true, if_false]
    by_cases c8 : 0 ≤ p.SafeTop ∧ p.SafeTop ≤ 31
    rotate_left
    · simp only [c8, decide_false, Bool.false_eq_true, if_false, Bool.not_false, Option.bind_some, if_true]
    simp only [c8, and_self, decide_true, if_true, Option.bind_some, Bool.not_true, Bool.false_eq_true, if_false]
    by_cases c9 : 0 ≤ p.SafeBottom ∧ p.SafeBottom ≤ 31
    rotate_left
    · simp only [c9, decide_false, Bool.false_eq_true, if_false, Bool.not_false, Option.bind_some, if_true]
    simp only [c9, and_self, decide_true, if_true, Option.bind_some, Bool.not_true, Bool.false_eq_true, if_false]
    by_cases c10 : 0 ≤ p.SafeLeft ∧ p.SafeLeft ≤ 31
    rotate_left
    · simp only [c10, decide_false, Bool.false_eq_true, if_false, Bool.not_false, Option.bind_some, if_true]
    simp only [c10, and_self, decide_true, if_true, Option.bind_some, Bool.not_true, Bool.false_eq_true, if_false]
    by_cases c11 : 0 ≤ p.SafeRight ∧ p.SafeRight ≤ 31
    rotate_left
    · simp only [c11, decide_false, Bool.false_eq_true, if_false, Bool.not_false, Option.bind_some, if_true]
    simp only [c11, and_self, decide_true, if_true, Option.bind_some, Bool.not_true, Bool.false_eq_true, if_false]
    exact absurd ⟨c0, c1, c2, c3, c4, c5, c6, c7, c8, c9, c10, c11⟩ hr'
def rtV (r : Int) : Bool := decide (1 ≤ r) && decide (r ≤ 7)
def rtT (r : Int) : Int := if r = 1 then 5005 else if r = 2 then 5000 else if r = 3 then 4800 else if r = 4 then 4004 else if r = 5 then 4000 else if r = 6 then 2400 else if r = 7 then 2002 else 0
theorem rates_fin : ∀ r : Fin 256, g_timebase_Valid ((r.val : Nat) : Int) = some (rtV ((r.val : Nat) : Int)) ∧ g_ref02_Valid ((r.val : Nat) : Int) = some (rtV ((r.val : Nat) : Int)) ∧ g_timebase_Ticks ((r.val : Nat) : Int) = some (rtT ((r.val : Nat) : Int)) ∧
    (rtV ((r.val : Nat) : Int) = true → g_ref02_Ticks ((r.val : Nat) : Int) = some (rtT ((r.val : Nat) : Int)) ∧ 2002 ≤ rtT ((r.val : Nat) : Int) ∧ rtT ((r.val : Nat) : Int) ≤ 5005) := by decide +kernel
theorem rates (r : Int) (h0 : 0 ≤ r) (h1 : r ≤ 255) : g_timebase_Valid r = some (rtV r) ∧ g_ref02_Valid r = some (rtV r) ∧ g_timebase_Ticks r = some (rtT r) ∧ (rtV r = true → g_ref02_Ticks r = some (rtT r) ∧ 2002 ≤ rtT r ∧ rtT r ≤ 5005) := by
  have := rates_fin ⟨r.toNat, by omega⟩
  have e : ((r.toNat : Nat) : Int) = r := by omega
  simp only [e] at this
  exact this
def wiB (n lo hi : Int) : Bool := decide (lo ≤ n) && decide (n ≤ hi)
theorem rwithin_eq (n lo hi : Int) : g_reading_within n lo hi = some (wiB n lo hi) := by
  unfold g_reading_within wiB
  cases decide (lo ≤ n) <;> simp
theorem within_ref (n lo hi : Int) : g_ref40_within n lo hi = some (wiB n lo hi) := by
  unfold g_ref40_within wiB
  cases decide (lo ≤ n) <;> simp
theorem wiB_t {n lo hi : Int} (h : wiB n lo hi = true) : lo ≤ n ∧ n ≤ hi := by
  unfold wiB at h; simpa using h
def upQ (a b : Int) : Int := Int.tdiv (a + b - 1) b
theorem upQ_le {a b f : Int} (ha : 0 ≤ a) (hb : 0 < b) : upQ a b ≤ f ↔ a ≤ f * b := by
  unfold upQ
  rw [Int.tdiv_eq_ediv_of_nonneg (by omega)]
  constructor
  · intro h
    have h1 := Int.lt_mul_ediv_self_add (x := a + b - 1) hb
    have h2 : b * ((a + b - 1) / b) ≤ b * f := Int.mul_le_mul_of_nonneg_left h (by omega)
    rw [Int.mul_comm f b]
    omega
  · intro h
    have : (a + b - 1) / b < f + 1 := by
      refine Int.ediv_lt_of_lt_mul hb ?_
      rw [Int.add_mul]
      omega
    omega
def needS (r c l : Int) : Int × Int := if rtV r then (if wiB c 0 10000 && wiB l 1 10000 then (upQ (c * 12000000) (l * rtT r), 0) else (0, 2)) else (0, 3)
theorem mul_small {x t : Int} (k : Int) (hx : 1 ≤ x) (hk : x ≤ k) (h1 : 2002 ≤ t) (h2 : t ≤ 5005) (hkk : k ≤ 5184000) : 1 ≤ x * t ∧ x * t ≤ 25945920000 := by
  have a1 : x * t ≤ 5184000 * t := Int.mul_le_mul_of_nonneg_right (by omega) (by omega)
  have a2 : 5184000 * t ≤ 5184000 * 5005 := Int.mul_le_mul_of_nonneg_left h2 (by omega)
  have a3 : 1 * t ≤ x * t := Int.mul_le_mul_of_nonneg_right hx (by omega)
  omega
theorem Needed_eq (r c l : Int) (h0 : 0 ≤ r) (h1 : r ≤ 255) : g_reading_Needed r c l = some (needS r c l) ∧ g_ref40_Needed r c l = some (needS r c l) := by
  obtain ⟨e1, e2, e3, e4⟩ := rates r h0 h1
  unfold g_reading_Needed g_ref40_Needed needS
  simp only [e1, e2, rwithin_eq, within_ref, Option.bind_some]
  cases hv : rtV r with
  | false => simp
  | true =>
    obtain ⟨e5, t0, t1⟩ := e4 hv
    simp only [if_true, e3, e5, Option.bind_some]
    cases hc : wiB c 0 10000 with
    | false => simp
    | true =>
      cases hl : wiB l 1 10000 with
      | false => simp
      | true =>
        have hc' := wiB_t hc
        have hl' := wiB_t hl
        obtain ⟨m1, m2⟩ := mul_small 10000 hl'.1 hl'.2 t0 t1 (by omega)
        generalize l * rtT r = b at m1 m2
        have w0 := wrap_i64 (c * 100) (by omega) (by omega)
        have w1 := wrap_i64 (c * 100 * 120000) (by omega) (by omega)
        have w2 := wrap_i64 b (by omega) (by omega)
        have w3 := wrap_i64 (c * 100 * 120000 + b) (by omega) (by omega)
        have w4 := wrap_i64 (c * 100 * 120000 + b - 1) (by omega) (by omega)
        have hb : ¬ b = 0 := by omega
        have hq := upQ_le (a := c * 12000000) (b := b) (f := 120000000000) (by omega) (by omega)
        have hq1 : upQ (c * 12000000) b ≤ 120000000000 := hq.2 (by have := Int.mul_le_mul_of_nonneg_left m1 (show (0 : Int) ≤ 120000000000 by omega); omega)
        have hq0 : 0 ≤ upQ (c * 12000000) b := by unfold upQ; exact Int.tdiv_nonneg (by omega) (by omega)
        have eu : Int.tdiv (c * 100 * 120000 + b - 1) b = upQ (c * 12000000) b := by unfold upQ; congr 1; omega
        have w5 := wrap_i64 (upQ (c * 12000000) b) (by omega) (by omega)
        simp only [Bool.not_true, Bool.false_eq_true, if_false, Bool.and_self, if_true, g_reading_load, g_reading_up, Option.bind_some, w0, w1, w2, w3, w4, hb, not_false_eq_true, eu, w5, and_self]
end Go.Proofs.YtalfcmgcjdkolaaGreatDoor
namespace Go.Proofs.YtalfcmgcjdkolaaGreatDoor
set_option maxRecDepth 100000
def pnL (t : T_api_Penalties) : List Int := [t.Strength.a0, t.Strength.a1, t.Strength.a2, t.Strength.a3, t.Strength.a4, t.Strength.a5, t.Ragged, t.Row, t.Event, t.Fast, t.Gap, t.Shot]
def prs (t : T_api_Penalties) : List (Int × Int) := [(t.Strength.a0, t.Strength.a1), (t.Strength.a1, t.Strength.a2), (t.Strength.a2, t.Strength.a3), (t.Strength.a3, t.Strength.a4), (t.Strength.a4, t.Strength.a5)]
def inN (y : Int) : Bool := decide (0 ≤ y) && decide (y ≤ 1000000)
def pcS (t : T_api_Penalties) : Int := if (pnL t).all inN then (if (prs t).all fun p => decide (p.2 ≤ p.1) then 0 else 8) else 2
theorem num_loop (l : List Int) (hl : l.length ≤ 1000) : iter (g_penalty_Check_s1 l) 0 = some (if l.all inN then .inr () else .inl ()) := by
  have := iter_idx (step := g_penalty_Check_s1 l) l.length (by omega) (fun i => if (l.drop i).all inN then .inr () else .inl ()) (fun i hi => ?_) ?_
  · simpa using this
  · unfold g_penalty_Check_s1
    rw [if_pos (by simpa using hi), atI_nat hi, List.drop_eq_getElem_cons hi, wr64 (by omega)]
    simp only [Option.bind_some, List.all_cons]
    by_cases h1 : l[i] < 0
    · right; simp [h1, inN, show ¬ 0 ≤ l[i] from by omega]
    · by_cases h2 : 1000000 < l[i]
      · right; simp [h1, h2, inN, show ¬ l[i] ≤ 1000000 from by omega]
      · left; simp [h1, h2, inN, show 0 ≤ l[i] from by omega, show l[i] ≤ 1000000 from by omega]
  · unfold g_penalty_Check_s1
    rw [if_neg (by simp)]
    simp
theorem wl : IntKind.i64.wrap 0 = 0 ∧ IntKind.i64.wrap 1 = 1 ∧ IntKind.i64.wrap 2 = 2 ∧ IntKind.i64.wrap 3 = 3 ∧ IntKind.i64.wrap 4 = 4 ∧ IntKind.i64.wrap 5 = 5 ∧ IntKind.i64.wrap 6 = 6 ∧ IntKind.i64.wrap 7 = 7 := by decide
def dsR (t : T_api_Penalties) (k : Nat) : Unit ⊕ Unit := if ((prs t).drop k).all fun p => decide (p.2 ≤ p.1) then .inr () else .inl ()
theorem des_loop (t : T_api_Penalties) : iter (g_penalty_Check_s2 t) 1 = some (dsR t 0) := by
  obtain ⟨w0, w1, w2, w3, w4, w5, w6, w7⟩ := wl
  refine iter_of (fun x e => (x = 1 ∧ e = dsR t 0) ∨ (x = 2 ∧ e = dsR t 1) ∨ (x = 3 ∧ e = dsR t 2) ∨ (x = 4 ∧ e = dsR t 3) ∨ (x = 5 ∧ e = dsR t 4) ∨ (x = 6 ∧ e = dsR t 5)) (fun x => 10 - x.toNat) ?_ (.inl ⟨rfl, rfl⟩) (by decide)
  rintro x e (⟨rfl, rfl⟩ | ⟨rfl, rfl⟩ | ⟨rfl, rfl⟩ | ⟨rfl, rfl⟩ | ⟨rfl, rfl⟩ | ⟨rfl, rfl⟩)
  · unfold g_penalty_Check_s2
    by_cases h : t.Strength.a0 < t.Strength.a1
    · right; simp [dsR, prs, h, show ¬ t.Strength.a1 ≤ t.Strength.a0 from by omega, *]
    · left; refine ⟨2, by simp [h, *], .inr (.inl ⟨rfl, ?_⟩), by decide⟩
      simp [dsR, prs, show t.Strength.a1 ≤ t.Strength.a0 from by omega]
  · unfold g_penalty_Check_s2
    by_cases h : t.Strength.a1 < t.Strength.a2
    · right; simp [dsR, prs, h, show ¬ t.Strength.a2 ≤ t.Strength.a1 from by omega, *]
    · left; refine ⟨3, by simp [h, *], .inr (.inr (.inl ⟨rfl, ?_⟩)), by decide⟩
      simp [dsR, prs, show t.Strength.a2 ≤ t.Strength.a1 from by omega]
  · unfold g_penalty_Check_s2
    by_cases h : t.Strength.a2 < t.Strength.a3
    · right; simp [dsR, prs, h, show ¬ t.Strength.a3 ≤ t.Strength.a2 from by omega, *]
    · left; refine ⟨4, by simp [h, *], .inr (.inr (.inr (.inl ⟨rfl, ?_⟩))), by decide⟩
      simp [dsR, prs, show t.Strength.a3 ≤ t.Strength.a2 from by omega]
  · unfold g_penalty_Check_s2
    by_cases h : t.Strength.a3 < t.Strength.a4
    · right; simp [dsR, prs, h, show ¬ t.Strength.a4 ≤ t.Strength.a3 from by omega, *]
    · left; refine ⟨5, by simp [h, *], .inr (.inr (.inr (.inr (.inl ⟨rfl, ?_⟩)))), by decide⟩
      simp [dsR, prs, show t.Strength.a4 ≤ t.Strength.a3 from by omega]
  · unfold g_penalty_Check_s2
    by_cases h : t.Strength.a4 < t.Strength.a5
    · right; simp [dsR, prs, h, show ¬ t.Strength.a5 ≤ t.Strength.a4 from by omega, *]
    · left; refine ⟨6, by simp [h, *], .inr (.inr (.inr (.inr (.inr ⟨rfl, ?_⟩)))), by decide⟩
      simp [dsR, prs, show t.Strength.a5 ≤ t.Strength.a4 from by omega]
  · right
    unfold g_penalty_Check_s2
    simp [dsR, prs]
theorem pen_Check (t : T_api_Penalties) : g_penalty_Check t = some (pcS t) := by
  unfold g_penalty_Check g_penalty_numbers pcS
  simp only [Option.bind_some, List.cons_append, List.nil_append]
  have h := num_loop (pnL t) (by simp [pnL])
  unfold pnL at h ⊢
  rw [h, des_loop]
  unfold dsR
  simp only [List.drop_zero, Option.bind_some]
  generalize List.all _ inN = b
  generalize List.all (prs t) _ = c
  cases b <;> cases c <;> rfl
theorem ref_penCheck : g_ref35_Check = g_penalty_Check := rfl
theorem pcS_0 {t : T_api_Penalties} (h : pcS t = 0) : (0 ≤ t.Strength.a0 ∧ t.Strength.a0 ≤ 1000000) ∧ (0 ≤ t.Strength.a1 ∧ t.Strength.a1 ≤ 1000000) ∧ (0 ≤ t.Strength.a2 ∧ t.Strength.a2 ≤ 1000000) ∧ (0 ≤ t.Strength.a3 ∧ t.Strength.a3 ≤ 1000000) ∧ (0 ≤ t.Strength.a4 ∧ t.Strength.a4 ≤ 1000000) ∧ (0 ≤ t.Strength.a5 ∧ t.Strength.a5 ≤ 1000000) ∧ (0 ≤ t.Ragged ∧ t.Ragged ≤ 1000000) ∧ (0 ≤ t.Row ∧ t.Row ≤ 1000000) ∧ (0 ≤ t.Event ∧ t.Event ≤ 1000000) ∧ (0 ≤ t.Fast ∧ t.Fast ≤ 1000000) ∧ (0 ≤ t.Gap ∧ t.Gap ≤ 1000000) ∧ (0 ≤ t.Shot ∧ t.Shot ≤ 1000000) := by
  unfold pcS at h
  split at h
  · rename_i h1
    simpa [pnL, inN, and_assoc] using h1
  · cases h
def hasSp (s : List UInt8) : Bool := s.any fun b => b.toNat == 32
theorem idx_sp : ∀ s : List UInt8, decide (0 ≤ Lib.indexByte s 32) = hasSp s
  | [] => by decide
  | b :: l => by
    have ih := idx_sp l
    have hg := Lib.indexByte_ge l 32
    have hb : (b == 32) = (b.toNat == 32) := by
      rw [Bool.eq_iff_iff, beq_iff_eq, beq_iff_eq]
      exact ⟨fun h => by rw [h]; rfl, fun h => UInt8.toNat_inj.1 h⟩
    unfold hasSp at ih ⊢
    rw [List.any_cons, ← ih, ← hb]
    rw [show Lib.indexByte (b :: l) 32 = (if b == 32 then 0 else if Lib.indexByte l 32 == -1 then -1 else Lib.indexByte l 32 + 1) from rfl]
    cases hq : b == 32
    · by_cases h2 : Lib.indexByte l 32 = -1
      · simp [h2]
      · have : (Lib.indexByte l 32 == -1) = false := by simpa using h2
        simp only [this, Bool.false_eq_true, if_false, Bool.false_or]
        rw [decide_eq_decide]
        omega
    · simp
theorem cont_eq (s : List UInt8) : g_strings_Contains s [32] = some (hasSp s) := by
  rw [← idx_sp]; rfl
theorem sp_loop {step : Int → Option (Nx Int (Unit ⊕ Unit))} (s : List UInt8) (hs : s.length ≤ 140737488355328) (hst : ∀ x, step x = (if (decide (x < (s.length : Int))) then ((atI s x).bind fun b => (if ((b.toNat : Int) == 32) then (some (.out (.inl ()))) else (some (.go (IntKind.i64.wrap (x + 1)))))) else (some (.out (.inr ()))))) : iter step 0 = some (if hasSp s then .inl () else .inr ()) := by
  have := iter_idx (step := step) s.length (by omega) (fun i => if hasSp (s.drop i) then .inl () else .inr ()) (fun i hi => ?_) ?_
  · simpa using this
  · rw [hst, if_pos (by simpa using hi), atI_nat hi, List.drop_eq_getElem_cons hi, wr64 (by omega)]
    unfold hasSp
    simp only [Option.bind_some, List.any_cons]
    by_cases h1 : s[i].toNat = 32
    · right; simp [h1]
    · left
      have h2 : ((s[i].toNat : Int) == 32) = false := by simpa using (by omega : ¬ (s[i].toNat : Int) = 32)
      have h3 : (s[i].toNat == 32) = false := by simpa using h1
      simp [h2, h3]
  · rw [hst, if_neg (by simp)]
    simp [hasSp]
def ckW (w : T_api_Word) (last : Int) : Int := if w.Text = [] ∨ hasSp w.Text = true then 4 else if gv w.Text = false then 10 else if w.Span.In < 0 ∨ w.Span.Out ≤ w.Span.In ∨ 5184000 < w.Span.Out then 2 else if w.Span.In < last then 8 else 0
theorem sp_three (w : T_api_Word) : (if (decide (w.Span.In < 0)) then (some true) else (if (decide (w.Span.Out ≤ w.Span.In)) then (some true) else (some (decide (5184000 < w.Span.Out)))) : Option Bool) = some (decide (w.Span.In < 0 ∨ w.Span.Out ≤ w.Span.In ∨ 5184000 < w.Span.Out)) := by
  by_cases h1 : w.Span.In < 0
  · simp [h1]
  · by_cases h2 : w.Span.Out ≤ w.Span.In
    · simp [h1, h2]
    · simp [h1, h2]
theorem word_prog (w : T_api_Word) (last : Int) (hw : w.Text.length ≤ 1048576) : g_segment_checkWord w last = some (ckW w last) := by
  unfold g_segment_checkWord ckW
  rw [cont_eq, prog_Valid_eq _ (by omega), sp_three]
  by_cases h : w.Text = []
  · simp [h]
  · have hb : (w.Text == ([] : List UInt8)) = false := by simpa using h
    rw [hb]
    simp only [Bool.false_eq_true, if_false, Option.bind_some, h, false_or]
    cases hasSp w.Text
    · cases gv w.Text
      · rfl
      · simp only [Bool.false_eq_true, if_false, if_true, Option.bind_some]
        by_cases h3 : w.Span.In < 0 ∨ w.Span.Out ≤ w.Span.In ∨ 5184000 < w.Span.Out
        · simp [h3]
        · simp only [h3, decide_false, Bool.false_eq_true, if_false]
          by_cases h4 : w.Span.In < last <;> simp [h4]
    · rfl
theorem word_ref (w : T_api_Word) (last : Int) (hw : w.Text.length ≤ 1048576) : g_ref38_word w last = some (ckW w last) := by
  unfold g_ref38_word ckW
  rw [sp_loop (step := g_ref38_word_s1 w) w.Text (by omega) (fun x => rfl), ref_Valid_eq _ (by omega), sp_three]
  by_cases h : w.Text = []
  · simp [h]
  · have hb : (w.Text == ([] : List UInt8)) = false := by simpa using h
    rw [hb]
    simp only [Bool.false_eq_true, if_false, Option.bind_some, h, false_or]
    cases hasSp w.Text
    · simp only [Bool.false_eq_true, if_false]
      cases gv w.Text
      · rfl
      · simp only [Bool.false_eq_true, if_false, if_true, Option.bind_some]
        by_cases h3 : w.Span.In < 0 ∨ w.Span.Out ≤ w.Span.In ∨ 5184000 < w.Span.Out
        · simp [h3]
        · simp only [h3, decide_false, Bool.false_eq_true, if_false]
          by_cases h4 : w.Span.In < last <;> simp [h4]
    · rfl
def ckWs : Int → List T_api_Word → Int
  | _, [] => 0
  | last, w :: l => if ckW w last ≠ 0 then ckW w last else ckWs w.Span.Out l
theorem words_loop {step : Int × Int → Option (Nx (Int × Int) (Int ⊕ Unit))} {chk : T_api_Word → Int → Option Int} (ws : List T_api_Word) (hn : ws.length ≤ 1000) (hc : ∀ y ∈ ws, ∀ a, chk y a = some (ckW y a))
    (hst : ∀ x, step x = (if (decide (x.2 < (ws.length : Int))) then ((atI ws x.2).bind fun y153 => ((chk y153 x.1).bind fun r159 => (if (r159 != 0) then (some (.out (.inl r159))) else (some (.go (y153.Span.Out, (IntKind.i64.wrap (x.2 + 1)))))))) else (some (.out (.inr ()))))) :
    iter step (0, 0) = some (if ckWs 0 ws = 0 then .inr () else .inl (ckWs 0 ws)) := by
  refine iter_of (fun x e => ∃ i : Nat, x.2 = (i : Int) ∧ i ≤ ws.length ∧ e = if ckWs x.1 (ws.drop i) = 0 then .inr () else .inl (ckWs x.1 (ws.drop i))) (fun x => ws.length - x.2.toNat) ?_ (x := (0, 0)) ⟨0, rfl, Nat.zero_le _, by simp⟩ (by show ws.length - 0 < _; omega)
  rintro ⟨a, x⟩ e ⟨i, hx, hi, rfl⟩
  dsimp only at hx ⊢
  subst hx
  rw [hst]
  dsimp only
  by_cases h : i < ws.length
  · rw [if_pos (by simpa using h), atI_nat h, List.drop_eq_getElem_cons h, wr64 (by omega)]
    simp only [Option.bind_some, hc _ (List.getElem_mem h), ckWs]
    by_cases h1 : ckW ws[i] a = 0
    · left
      simp only [h1, bne_self_eq_false, Bool.false_eq_true, if_false, ne_eq, not_true]
      exact ⟨_, rfl, ⟨i + 1, rfl, h, rfl⟩, by dsimp only; omega⟩
    · right
      have : (ckW ws[i] a != 0) = true := by simpa using h1
      simp [this, h1]
  · right
    rw [if_neg (by simpa using h), List.drop_eq_nil_of_le (by omega)]
    simp [ckWs]
theorem shots_total (l : List Int) (hl : l.length ≤ 1000) : ∃ v, g_shots_Check l = some v := by
  unfold g_shots_Check
  by_cases h : 400 < (l.length : Int)
  · exact ⟨9, by simp [h]⟩
  · rw [if_neg (by simpa using h)]
    have hh : ∃ e, iter (g_shots_Check_s1 l) 0 = some e := by
      refine iter_ends l.length (by omega) (fun i hi => ?_) ?_
      · unfold g_shots_Check_s1
        rw [if_pos (by simpa using hi), atI_nat hi, wr64 (x := (i : Int) + 1) (by omega)]
        simp only [Option.bind_some]
        have hv : ∃ b : Bool, (if decide (l[i] < 1) = true then some true else some (decide (5184000 < l[i])) : Option Bool) = some b := by
          by_cases q : l[i] < 1
          · exact ⟨true, by simp [q]⟩
          · exact ⟨_, by simp [q]; rfl⟩
        obtain ⟨b, hb⟩ := hv
        rw [hb]
        simp only [Option.bind_some]
        cases b
        · simp only [Bool.false_eq_true, if_false]
          by_cases q : 0 < (i : Int)
          · rw [if_pos (by simpa using q), wr64 (by omega), show ((i : Int) - 1) = ((i - 1 : Nat) : Int) by omega, atI_nat (show i - 1 < l.length by omega)]
            simp only [Option.bind_some]
            by_cases q2 : l[i] ≤ l[i - 1]
            · exact .inr ⟨_, by rw [if_pos (by simpa using q2)]⟩
            · exact .inl (by rw [if_neg (by simpa using q2)])
          · exact .inl (by rw [if_neg (by simpa using q)])
        · exact .inr ⟨_, rfl⟩
      · unfold g_shots_Check_s1
        exact ⟨_, by rw [if_neg (by simp)]⟩
    obtain ⟨e, he⟩ := hh
    rw [he]
    cases e <;> exact ⟨_, rfl⟩
def shC (l : List Int) : Int := (g_shots_Check l).getD 0
theorem shC_eq (l : List Int) (hl : l.length ≤ 1000) : g_shots_Check l = some (shC l) := by
  obtain ⟨v, h⟩ := shots_total l hl
  unfold shC; rw [h]; rfl
theorem ref_shots : g_ref37_Check = g_shots_Check := rfl
theorem ref_inside : g_ref37_Inside = g_shots_Inside := rfl
theorem inside_total (l : List Int) (s : T_api_Span) (hl : l.length ≤ 1000) : ∃ v, g_shots_Inside l s = some v ∧ v.length ≤ l.length := by
  unfold g_shots_Inside
  rw [shC_eq l hl]
  simp only [Option.bind_some]
  by_cases h : shC l = 0
  · rw [if_neg (by simp [h])]
    have := iter_post (step := g_shots_Inside_s1 l s) (fun x => ∃ i : Nat, x.2 = (i : Int) ∧ i ≤ l.length ∧ x.1.length ≤ i) (fun x => l.length - x.2.toNat) (fun e => e.length ≤ l.length) (x := ([], 0)) ⟨0, rfl, Nat.zero_le _, by simp⟩ (by show l.length - 0 < _; omega) ?_
    · obtain ⟨e, h1, h2⟩ := this
      exact ⟨e, by rw [h1]; rfl, h2⟩
    · rintro ⟨a, x⟩ ⟨i, hx, hi, ha⟩
      dsimp only at hx ha ⊢
      subst hx
      unfold g_shots_Inside_s1
      dsimp only
      by_cases q : i < l.length
      · rw [if_pos (by simpa using q), atI_nat q, wr64 (by omega)]
        simp only [Option.bind_some]
        have hv : ∃ b : Bool, (if decide (s.In < l[i]) = true then some (decide (l[i] < s.Out)) else some false : Option Bool) = some b := by
          by_cases q : s.In < l[i]
          · exact ⟨_, by simp [q]; rfl⟩
          · exact ⟨false, by simp [q]⟩
        obtain ⟨b, hb⟩ := hv
        rw [hb]
        simp only [Option.bind_some]
        left
        cases b
        · exact ⟨_, rfl, ⟨i + 1, rfl, q, by dsimp only; omega⟩, by dsimp only; omega⟩
        · rw [if_pos rfl, if_pos (by omega)]
          exact ⟨_, rfl, ⟨i + 1, rfl, q, by simp; omega⟩, by dsimp only; omega⟩
      · right
        rw [if_neg (by simpa using q)]
        exact ⟨_, rfl, by omega⟩
  · rw [if_pos (by simpa using h)]
    exact ⟨_, rfl, by simp⟩
structure Sok (s : T_api_Speech) : Prop where
  rate : 0 ≤ s.Rate ∧ s.Rate ≤ 255
  words : s.Words.length ≤ 8
  texts : ∀ w ∈ s.Words, w.Text.length ≤ 1048576
  shots : s.Shots.length ≤ 6
  name : s.House.Name.length ≤ 1048576
  forb : s.House.Forbidden.length ≤ 1048576
def ckSp (s : T_api_Speech) : Int := if rtV s.Rate = false then 13 else if s.Words = [] then 6 else if ckWs 0 s.Words ≠ 0 then ckWs 0 s.Words else if shC s.Shots ≠ 0 then shC s.Shots else if pcS s.Table ≠ 0 then pcS s.Table else ckS s.House
theorem seg_Check {s : T_api_Speech} (h : Sok s) : g_segment_Check s = some (ckSp s) := by
  obtain ⟨e1, _, _, _⟩ := rates s.Rate h.rate.1 h.rate.2
  unfold g_segment_Check ckSp
  rw [e1, words_loop (step := g_segment_Check_s1 s) (chk := g_segment_checkWord) s.Words (by have := h.words; omega) (fun y hy a => word_prog y a (h.texts y hy)) (fun x => rfl), shC_eq _ (by have := h.shots; omega), pen_Check, prog_Check _ h.name h.forb]
  simp only [Option.bind_some]
  cases rtV s.Rate
  · rfl
  simp only [Bool.true_eq_false, if_true, if_false]
  rw [if_neg (by have := h.words; simp; omega)]
  by_cases h0 : s.Words = []
  · simp [h0]
  have hl : ((s.Words.length : Int) == 0) = false := by
    have := List.length_pos_iff.2 h0
    simpa using (by omega : ¬ (s.Words.length : Int) = 0)
  simp only [hl, Bool.false_eq_true, if_false, h0]
  by_cases h1 : ckWs 0 s.Words = 0
  · simp only [h1, if_true, ne_eq, not_true, if_false]
    by_cases h2 : shC s.Shots = 0
    · simp only [h2, bne_self_eq_false, Bool.false_eq_true, if_false, not_true]
      by_cases h3 : pcS s.Table = 0
      · simp [h3]
      · simp [h3]
    · simp [h2]
  · simp [h1]
theorem ref_segCheck {s : T_api_Speech} (h : Sok s) : g_ref38_Check s = some (ckSp s) := by
  obtain ⟨_, e1, _, _⟩ := rates s.Rate h.rate.1 h.rate.2
  unfold g_ref38_Check ckSp
  rw [e1, words_loop (step := g_ref38_Check_s1 s) (chk := g_ref38_word) s.Words (by have := h.words; omega) (fun y hy a => word_ref y a (h.texts y hy)) (fun x => rfl), ref_shots, ref_penCheck, shC_eq _ (by have := h.shots; omega), pen_Check, ref_Check _ h.name h.forb]
  simp only [Option.bind_some]
  cases rtV s.Rate
  · rfl
  simp only [Bool.true_eq_false, if_true, if_false]
  rw [if_neg (by have := h.words; simp; omega)]
  by_cases h0 : s.Words = []
  · simp [h0]
  have hl : ((s.Words.length : Int) == 0) = false := by
    have := List.length_pos_iff.2 h0
    simpa using (by omega : ¬ (s.Words.length : Int) = 0)
  simp only [hl, Bool.false_eq_true, if_false, h0]
  by_cases h1 : ckWs 0 s.Words = 0
  · simp only [h1, if_true, ne_eq, not_true, if_false]
    by_cases h2 : shC s.Shots = 0
    · simp only [h2, bne_self_eq_false, Bool.false_eq_true, if_false, not_true]
      by_cases h3 : pcS s.Table = 0
      · simp [h3]
      · simp [h3]
    · simp [h2]
  · simp [h1]
end Go.Proofs.YtalfcmgcjdkolaaGreatDoor
namespace Go.Proofs.YtalfcmgcjdkolaaGreatDoor
set_option maxRecDepth 100000
def cutS : List UInt8 := [34, 39, 41, 93]
theorem cut_eq (s : List UInt8) : g_strings_TrimRight s [34, 39, 41, 93] = some (Lib.trimRightS s cutS) := by
  unfold g_strings_TrimRight
  rw [if_pos (by decide)]; rfl
theorem trim_snoc (l : List UInt8) (b : UInt8) : Lib.trimRightS (l ++ [b]) cutS = if cutS.contains b then Lib.trimRightS l cutS else l ++ [b] := by
  unfold Lib.trimRightS
  rw [List.reverse_append]
  simp only [List.reverse_cons, List.reverse_nil, List.nil_append, List.cons_append, List.dropWhile_cons]
  split <;> simp
theorem cut_mem (b : UInt8) : cutS.contains b = ((b.toNat == 34) || (b.toNat == 39) || (b.toNat == 41) || (b.toNat == 93)) := by
  have h : ∀ (n : Nat) (c : UInt8), c.toNat = n → (b == c) = (b.toNat == n) := by
    intro n c hc
    rw [Bool.eq_iff_iff, beq_iff_eq, beq_iff_eq]
    exact ⟨fun h => by rw [h, hc], fun h => UInt8.toNat_inj.1 (by rw [h, hc])⟩
  unfold cutS
  simp only [List.contains_cons, List.contains_nil, Bool.or_false]
  rw [h 34 34 rfl, h 39 39 rfl, h 41 41 rfl, h 93 93 rfl, Bool.or_assoc, Bool.or_assoc]
theorem trim_loop (s : List UInt8) (hs : s.length ≤ 140737488355328) : iter g_ref34_Strength_s1 s = some (Lib.trimRightS s cutS) := by
  refine iter_of (fun x e => x.length ≤ 140737488355328 ∧ e = Lib.trimRightS x cutS) (fun x => x.length) ?_ ⟨hs, rfl⟩ (by show s.length < _; omega)
  rintro x e ⟨hx, rfl⟩
  unfold g_ref34_Strength_s1
  rcases List.eq_nil_or_concat x with rfl | ⟨l, b, rfl⟩
  · right; rfl
  · rw [List.concat_eq_append] at hx ⊢
    have hl : (l ++ [b]).length = l.length + 1 := by simp
    rw [hl] at hx
    rw [hl, wr64 (by omega), if_pos (by simp), show (((l.length + 1 : Nat) : Int) - 1) = (l.length : Int) by omega, atI_nat (by simp)]
    simp only [Option.bind_some, List.getElem_append_right (Nat.le_refl _), Nat.sub_self, List.getElem_cons_zero]
    have hv : (if ((b.toNat : Int) == 34) = true then some true else if ((b.toNat : Int) == 39) = true then some true else if ((b.toNat : Int) == 41) = true then some true else some ((b.toNat : Int) == 93) : Option Bool) = some (cutS.contains b) := by
      rw [cut_mem]
      have e : ∀ n : Nat, ((b.toNat : Int) == (n : Int)) = (b.toNat == n) := fun n => by
        rw [Bool.eq_iff_iff, beq_iff_eq, beq_iff_eq]; omega
      have e1 := e 34; have e2 := e 39; have e3 := e 41; have e4 := e 93
      simp only [Int.cast_ofNat_Int] at e1 e2 e3 e4
      rw [e1, e2, e3, e4]
      cases (b.toNat == 34) <;> cases (b.toNat == 39) <;> cases (b.toNat == 41) <;> rfl
    rw [hv, trim_snoc]
    simp only [Option.bind_some]
    cases cutS.contains b
    · right; simp
    · left
      refine ⟨l, ?_, ⟨by omega, by simp⟩, by omega⟩
      simp [subH]
theorem trim_le (s : List UInt8) : (Lib.trimRightS s cutS).length ≤ s.length := trimRight_len s cutS
def lA : List UInt8 := [97, 32, 97, 110, 32, 116, 104, 101, 32, 111, 102, 32, 116, 111, 32, 105, 110, 32, 111, 110, 32, 97, 116, 32, 98, 121, 32, 102, 111, 114, 32, 102, 114, 111, 109, 32, 119, 105, 116, 104, 32, 109, 121, 32, 121, 111, 117, 114, 32, 104, 105, 115, 32, 104, 101, 114, 32, 105, 116, 115, 32, 111, 117, 114, 32, 116, 104, 101, 105, 114, 32, 110, 111]
def lB : List UInt8 := [97, 110, 100, 32, 98, 117, 116, 32, 111, 114, 32, 98, 101, 99, 97, 117, 115, 101, 32, 116, 104, 97, 116, 32, 119, 104, 105, 99, 104, 32, 119, 104, 111, 32, 119, 104, 101, 110, 32, 105, 102, 32, 119, 104, 105, 108, 101, 32, 115, 111, 32, 97, 115]
theorem same_A : g_strings_Split lA [32] = g_ref34_Words lA := by decide +kernel
theorem same_B : g_strings_Split lB [32] = g_ref34_Words lB := by decide +kernel
theorem some_A : ∃ l, g_ref34_Words lA = some l ∧ l.length ≤ 1000 := ⟨(g_ref34_Words lA).getD [], by decide +kernel, by decide +kernel⟩
theorem some_B : ∃ l, g_ref34_Words lB = some l ∧ l.length ≤ 1000 := ⟨(g_ref34_Words lB).getD [], by decide +kernel, by decide +kernel⟩
theorem among_step (s : List UInt8) (r : List (List UInt8)) : g_ref34_among_s1 s r = g_token_among_s1 s r := rfl
theorem among_total (s : List UInt8) (l : List (List UInt8)) (hl : l.length ≤ 1000) : ∃ e, iter (g_token_among_s1 s l) 0 = some e := by
  refine iter_ends l.length (by omega) (fun i hi => ?_) ?_
  · unfold g_token_among_s1
    rw [if_pos (by simpa using hi), atI_nat hi, wr64 (by omega)]
    simp only [Option.bind_some]
    cases l[i] == s
    · exact .inl rfl
    · exact .inr ⟨_, rfl⟩
  · unfold g_token_among_s1
    exact ⟨_, by rw [if_neg (by simp)]⟩
theorem among_both (s L : List UInt8) (h1 : g_strings_Split L [32] = g_ref34_Words L) (h2 : ∃ l, g_ref34_Words L = some l ∧ l.length ≤ 1000) : ∃ b, g_token_among s L = some b ∧ g_ref34_among L s = some b := by
  obtain ⟨l, hl, hn⟩ := h2
  obtain ⟨e, he⟩ := among_total s l hn
  unfold g_token_among g_ref34_among
  rw [h1, hl]
  simp only [Option.bind_some, among_step, he]
  cases e
  · exact ⟨true, rfl, rfl⟩
  · exact ⟨false, rfl, rfl⟩
theorem opt3 (p q r : Bool) : (if p = true then some true else if q = true then some true else some r : Option Bool) = some (p || q || r) := by
  cases p <;> cases q <;> rfl
theorem strength_both (w n : List UInt8) (hw : w.length ≤ 140737488355328) : ∃ v, 0 ≤ v ∧ v ≤ 5 ∧ g_token_Strength w n = some v ∧ g_ref34_Strength w n = some v := by
  unfold g_token_Strength g_ref34_Strength
  rw [cut_eq, trim_loop w hw]
  have hle := trim_le w
  obtain ⟨b1, p1, r1⟩ := among_both (smS w) lA same_A some_A
  obtain ⟨b2, p2, r2⟩ := among_both (smS n) lB same_B some_B
  unfold lA at p1 r1
  unfold lB at p2 r2
  simp only [Option.bind_some, g_token_small, g_ref34_small, p1, p2, r1, r2]
  generalize Lib.trimRightS w cutS = t at hle ⊢
  have tail : ∃ v : Int, 0 ≤ v ∧ v ≤ 5 ∧ (if b1 = true then some 0 else if b2 = true then some 2 else some 1 : Option Int) = some v := by
    cases b1
    · cases b2
      · exact ⟨1, by decide, by decide, rfl⟩
      · exact ⟨2, by decide, by decide, rfl⟩
    · exact ⟨0, by decide, by decide, rfl⟩
  by_cases ht : t = []
  · subst ht
    simp only [beq_self_eq_true, if_true, List.length_nil, Int.natCast_zero, Int.lt_irrefl, decide_false, Bool.false_eq_true, if_false]
    cases w == ([45] : List UInt8)
    · obtain ⟨v, h0, h5, hv⟩ := tail
      exact ⟨v, h0, h5, hv, hv⟩
    · exact ⟨4, by decide, by decide, rfl, rfl⟩
  · have hb : (t == ([] : List UInt8)) = false := by simpa using ht
    have hp := List.length_pos_iff.2 ht
    rw [hb, if_pos (show decide (0 < (t.length : Int)) = true by simpa using hp), wr64 (by omega), show ((t.length : Int) - 1) = ((t.length - 1 : Nat) : Int) by omega, atI_nat (show t.length - 1 < t.length by omega)]
    simp only [Bool.false_eq_true, if_false, Option.bind_some]
    generalize t[t.length - 1] = b
    rw [opt3, opt3]
    simp only [Option.bind_some]
    generalize ((b.toNat : Int) == 46 || (b.toNat : Int) == 33 || (b.toNat : Int) == 63) = o1
    generalize ((b.toNat : Int) == 58 || (b.toNat : Int) == 59 || w == ([45] : List UInt8)) = o2
    generalize ((b.toNat : Int) == 44) = o3
    cases o1
    · cases o2
      · cases o3
        · obtain ⟨v, h0, h5, hv⟩ := tail
          exact ⟨v, h0, h5, hv, hv⟩
        · exact ⟨3, by decide, by decide, rfl, rfl⟩
      · exact ⟨4, by decide, by decide, rfl, rfl⟩
    · exact ⟨5, by decide, by decide, rfl, rfl⟩
def strS (w n : List UInt8) : Int := (g_token_Strength w n).getD 0
theorem strS_eq (w n : List UInt8) (hw : w.length ≤ 140737488355328) : g_token_Strength w n = some (strS w n) ∧ g_ref34_Strength w n = some (strS w n) ∧ 0 ≤ strS w n ∧ strS w n ≤ 5 := by
  obtain ⟨v, h0, h5, h1, h2⟩ := strength_both w n hw
  unfold strS
  rw [h1]
  exact ⟨rfl, h2, h0, h5⟩
def tkA (ws : List T_api_Word) (i : Nat) : T_api_Token := ⟨(ws[i]?.getD ⟨[], ⟨0, 0⟩⟩).Text, if i + 1 < ws.length then strS (ws[i]?.getD ⟨[], ⟨0, 0⟩⟩).Text (ws[i + 1]?.getD ⟨[], ⟨0, 0⟩⟩).Text else 5⟩
def tks (ws : List T_api_Word) : List T_api_Token := (List.range ws.length).map (tkA ws)
theorem tks_len (ws : List T_api_Word) : (tks ws).length = ws.length := by simp [tks]
theorem tks_at (ws : List T_api_Word) {i : Nat} (h : i < (tks ws).length) : (tks ws)[i] = tkA ws i := by simp [tks]
theorem tkA_text (ws : List T_api_Word) {i : Nat} (h : i < ws.length) : (tkA ws i).Text = ws[i].Text := by simp [tkA, h]
theorem tkA_str (ws : List T_api_Word) {i : Nat} (h : i < ws.length) (hs : ∀ w ∈ ws, w.Text.length ≤ 1048576) : 0 ≤ (tkA ws i).Strength ∧ (tkA ws i).Strength ≤ 5 := by
  unfold tkA
  by_cases h2 : i + 1 < ws.length
  · simp only [h2, if_true]
    have := strS_eq (ws[i]?.getD ⟨[], ⟨0, 0⟩⟩).Text (ws[i + 1]?.getD ⟨[], ⟨0, 0⟩⟩).Text (by
      rw [List.getElem?_eq_getElem h]
      have := hs _ (List.getElem_mem h)
      simp only [Option.getD_some]; omega)
    exact this.2.2
  · simp [h2]
theorem setI_nat {α : Type} {l : List α} {n : Nat} (x : α) (h : n < l.length) : setI l (n : Int) x = some (l.set n x) := by
  simp [setI, h]
theorem mkI_nat {α : Type} (by' : Int) (n : Nat) (z : α) (h : (n : Int) * by' ≤ 140737488355328) (h2 : n ≤ 9223372036854775807) : mkI by' (n : Int) z = some (List.replicate n z) := by
  unfold mkI
  rw [if_pos (by omega)]
  simp [replL]
theorem tokens_eq {s : T_api_Speech} (h : Sok s) : g_segment_tokens s = some (tks s.Words) := by
  have hn := h.words
  unfold g_segment_tokens
  rw [mkI_nat 24 s.Words.length _ (by omega) (by omega)]
  simp only [Option.bind_some]
  have key : iter (g_segment_tokens_s1 s) (0, List.replicate s.Words.length (T_api_Token.mk [] 0)) = some (tks s.Words) := by
    refine iter_of (fun x e => ∃ i : Nat, x.1 = (i : Int) ∧ i ≤ s.Words.length ∧ x.2 = (List.range i).map (tkA s.Words) ++ List.replicate (s.Words.length - i) (T_api_Token.mk [] 0) ∧ e = tks s.Words) (fun x => s.Words.length - x.1.toNat) ?_ (x := (0, _)) ⟨0, rfl, by omega, by simp, rfl⟩ (by show s.Words.length - 0 < _; omega)
    rintro ⟨x, m⟩ e ⟨i, hx, hi, hm, rfl⟩
    dsimp only at hx hm ⊢
    subst hx hm
    unfold g_segment_tokens_s1
    dsimp only
    by_cases hlt : i < s.Words.length
    · left
      obtain ⟨k, hk⟩ : ∃ k, s.Words.length - i = k + 1 := ⟨s.Words.length - i - 1, by omega⟩
      have hk2 : s.Words.length - (i + 1) = k := by omega
      have hA : ((List.range i).map (tkA s.Words)).length = i := by simp
      have hset : ∀ (v u : T_api_Token), (((List.range i).map (tkA s.Words) ++ v :: List.replicate k (T_api_Token.mk [] 0))).set i u = (List.range i).map (tkA s.Words) ++ u :: List.replicate k (T_api_Token.mk [] 0) := fun v u => by
        rw [List.set_append_right _ _ (by omega), hA, Nat.sub_self]; rfl
      have hgt : ∀ (v : T_api_Token), atI ((List.range i).map (tkA s.Words) ++ v :: List.replicate k (T_api_Token.mk [] 0)) (i : Int) = some v := fun v => by
        rw [atI_nat (by simp), List.getElem_append_right (by omega)]
        simp [hA]
      have hse : ∀ (v u : T_api_Token), setI ((List.range i).map (tkA s.Words) ++ v :: List.replicate k (T_api_Token.mk [] 0)) (i : Int) u = some ((List.range i).map (tkA s.Words) ++ u :: List.replicate k (T_api_Token.mk [] 0)) := fun v u => by
        rw [setI_nat _ (by simp), hset]
      have hfin : ∀ u : T_api_Token, u = tkA s.Words i → (List.range i).map (tkA s.Words) ++ u :: List.replicate k (T_api_Token.mk [] 0) = (List.range (i + 1)).map (tkA s.Words) ++ List.replicate (s.Words.length - (i + 1)) (T_api_Token.mk [] 0) := fun u hu => by
        rw [hk2, List.range_succ, List.map_append, hu]; simp
      rw [hk, List.replicate_succ, if_pos (by simpa using hlt), atI_nat hlt]
      simp only [Option.bind_some, hgt, hse]
      rw [wr64 (by omega)]
      have hw := h.texts _ (List.getElem_mem hlt)
      by_cases h2 : i + 1 < s.Words.length
      · rw [if_pos (by simp; omega), show ((i : Int) + 1) = ((i + 1 : Nat) : Int) by omega, atI_nat h2]
        simp only [Option.bind_some]
        rw [(strS_eq s.Words[i].Text s.Words[i + 1].Text (by omega)).1]
        simp only [Option.bind_some, hgt, hse]
        refine ⟨_, rfl, ⟨i + 1, rfl, by omega, hfin _ ?_, by first | rfl | trivial⟩, by dsimp only; omega⟩
        simp [tkA, hlt, h2]
      · rw [if_neg (by simp; omega), show ((i : Int) + 1) = ((i + 1 : Nat) : Int) by omega]
        refine ⟨_, rfl, ⟨i + 1, rfl, by omega, hfin _ ?_, by first | rfl | trivial⟩, by dsimp only; omega⟩
        simp [tkA, hlt, h2]
    · right
      obtain rfl : i = s.Words.length := by omega
      rw [if_neg (by simp)]
      simp [tks]
  rw [key]; rfl
def tkP (ws : List T_api_Word) (i j : Nat) : List T_api_Token := ((tks ws).drop i).take (j - i)
theorem tkP_len (ws : List T_api_Word) {i j : Nat} (h : j ≤ ws.length) : (tkP ws i j).length = j - i := by
  simp [tkP, tks]; omega
theorem tkP_at (ws : List T_api_Word) {i j k : Nat} (hj : j ≤ ws.length) (h : k < (tkP ws i j).length) : (tkP ws i j)[k] = tkA ws (i + k) := by
  simp [tkP, tks]
theorem tkP_snoc (ws : List T_api_Word) {i j : Nat} (hij : i ≤ j) (hj : j < ws.length) : tkP ws i (j + 1) = tkP ws i j ++ [tkA ws j] := by
  unfold tkP
  have : j + 1 - i = (j - i) + 1 := by omega
  rw [this, List.take_add_one]
  congr 1
  rw [List.getElem?_drop, show i + (j - i) = j by omega, List.getElem?_eq_getElem (by rw [tks_len]; exact hj), tks_at]
  rfl
theorem paragraph_eq {s : T_api_Speech} (h : Sok s) {i j : Nat} (hij : i ≤ j) (hj : j ≤ s.Words.length) : g_ref38_paragraph s (i : Int) (j : Int) = some ⟨tkP s.Words i j, s.House.Cols, s.House.Rows, s.Table⟩ := by
  have hn := h.words
  unfold g_ref38_paragraph
  have key : iter (g_ref38_paragraph_s1 s (j : Int)) ((i : Int), []) = some (tkP s.Words i j) := by
    refine iter_of (fun x e => ∃ k : Nat, x.1 = (k : Int) ∧ i ≤ k ∧ k ≤ j ∧ x.2 = tkP s.Words i k ∧ e = tkP s.Words i j) (fun x => j - x.1.toNat) ?_ (x := ((i : Int), [])) ⟨i, rfl, by omega, by omega, by simp [tkP], rfl⟩ (by show j - _ < _; omega)
    rintro ⟨x, m⟩ e ⟨k, hx, hik, hkj, hm, rfl⟩
    dsimp only at hx hm ⊢
    subst hx hm
    unfold g_ref38_paragraph_s1
    dsimp only
    have hlen := tkP_len s.Words (i := i) (j := k) (by omega)
    by_cases hlt : k < j
    · left
      rw [if_pos (by simpa using hlt), wr64 (by omega)]
      have hk : k < s.Words.length := by omega
      have hw := h.texts _ (List.getElem_mem hk)
      by_cases h2 : k + 1 < s.Words.length
      · rw [if_pos (by simp; omega), show ((k : Int) + 1) = ((k + 1 : Nat) : Int) by omega, atI_nat h2, atI_nat hk]
        simp only [Option.bind_some]
        rw [(strS_eq s.Words[k].Text s.Words[k + 1].Text (by omega)).2.1]
        simp only [Option.bind_some]
        rw [if_pos (by omega)]
        refine ⟨_, rfl, ⟨k + 1, rfl, by omega, by omega, ?_, by first | rfl | trivial⟩, by dsimp only; omega⟩
        rw [tkP_snoc s.Words hik hk]
        simp [tkA, hk, h2]
      · rw [if_neg (by simp; omega), show ((k : Int) + 1) = ((k + 1 : Nat) : Int) by omega, atI_nat hk]
        simp only [Option.bind_some]
        rw [if_pos (by omega)]
        refine ⟨_, rfl, ⟨k + 1, rfl, by omega, by omega, ?_, by first | rfl | trivial⟩, by dsimp only; omega⟩
        rw [tkP_snoc s.Words hik hk]
        simp [tkA, hk, h2]
    · right
      obtain rfl : k = j := by omega
      rw [if_neg (by simp)]
  rw [key]; rfl
end Go.Proofs.YtalfcmgcjdkolaaGreatDoor
namespace Go.Proofs.YtalfcmgcjdkolaaGreatDoor
set_option maxRecDepth 100000
theorem rcF : ∀ (fuel pos : Nat) (s : List UInt8), s.length ≤ pos + fuel → Lib.runeCountFrom ⟨s.toArray⟩ fuel pos = (rnL (s.drop pos)).length
  | 0, pos, s, h => by rw [rnL_end (by omega)]; rfl
  | fuel + 1, pos, s, h => by
    have hsz : (⟨s.toArray⟩ : ByteArray).size = s.length := bsize s
    unfold Lib.runeCountFrom
    rw [hsz]
    by_cases hp : pos < s.length
    · rw [if_pos hp, decL_eq s pos hp, rnL_at hp]
      have hw := wd_pos hp
      have := rcF fuel (pos + widthAt s pos) s (by omega)
      unfold widthAt at this
      rw [this, List.length_cons]
      unfold widthAt
      omega
    · rw [if_neg hp, rnL_end (by omega)]; rfl
theorem rcL (s : List UInt8) : Lib.runeCountL s = (rnL s).length := by
  unfold Lib.runeCountL Lib.runeCount
  rw [rcF _ 0 s (by rw [bsize]; omega), List.drop_zero]
def chL (s : List UInt8) : Int := if gv s then ((rnL s).length : Int) else -1
theorem len_prog (s : List UInt8) (h : s.length ≤ 1048576) : g_charset_Len s = some (chL s) := by
  unfold g_charset_Len chL
  rw [prog_Valid_eq s (by omega)]
  simp only [Option.bind_some, g_unicode_utf8_RuneCountInString]
  cases gv s
  · rfl
  · simp only [if_true]
    rw [if_pos (show s.length < 9223372036854775807 by omega), rcL]; rfl
theorem len_ref (s : List UInt8) (h : s.length ≤ 1048576) : g_ref08_Len s = some (chL s) := by
  unfold g_ref08_Len chL
  rw [ref_Valid_eq s (by omega), runes_eq s h]
  simp only [Option.bind_some]
  cases gv s <;> rfl
theorem chL_le (s : List UInt8) (h : s.length ≤ 1048576) : -1 ≤ chL s ∧ chL s ≤ 1048576 := by
  unfold chL
  have := rnL_len _ s (Nat.le_refl _)
  split <;> omega
theorem chL_pos {s : List UInt8} (h : gv s = true) (hn : s ≠ []) : 1 ≤ chL s := by
  unfold chL
  rw [if_pos h, rnL_ne hn, List.length_cons]
  omega
def upP (a b : Int) : Int := Int.tdiv (a + b - 1) b
theorem upP_ge {a b : Int} (ha : 1 ≤ a) (hb : 1 ≤ b) : 1 ≤ upP a b ∧ upP a b ≤ a := by
  unfold upP
  rw [Int.tdiv_eq_ediv_of_nonneg (by omega)]
  constructor
  · exact (Int.le_ediv_iff_mul_le (by omega)).2 (by omega)
  · have : (a + b - 1) / b < a + 1 := by
      refine Int.ediv_lt_of_lt_mul (by omega) ?_
      have : (a + 1) * b = a * b + b := by rw [Int.add_mul, Int.one_mul]
      have h2 : a * 1 ≤ a * b := Int.mul_le_mul_of_nonneg_left hb (by omega)
      omega
    omega
def aimS (t w : Int) : Int × Int := if wiB t 1 10000 && wiB w 1 32 then (upP t (upP t w), 0) else (0, 2)
theorem pwithin (n lo hi : Int) : g_penalty_within n lo hi = some (wiB n lo hi) := by
  unfold g_penalty_within wiB
  cases decide (lo ≤ n) <;> simp
theorem rwithin35 (n lo hi : Int) : g_ref35_within n lo hi = some (wiB n lo hi) := by
  unfold g_ref35_within wiB
  cases decide (lo ≤ n) <;> simp
theorem aim_prog (t w : Int) : g_penalty_Aim t w = some (aimS t w) := by
  unfold g_penalty_Aim aimS wiB g_penalty_up
  by_cases h1 : t < 1
  · simp [h1, show ¬ 1 ≤ t from by omega]
  by_cases h2 : 10000 < t
  · simp [h1, h2, show ¬ t ≤ 10000 from by omega]
  by_cases h3 : w < 1
  · simp [h1, h2, h3, show ¬ 1 ≤ w from by omega]
  by_cases h4 : 32 < w
  · simp [h1, h2, h3, h4, show ¬ w ≤ 32 from by omega]
  obtain ⟨a1, a2⟩ := upP_ge (a := t) (b := w) (by omega) (by omega)
  obtain ⟨b1, b2⟩ := upP_ge (a := t) (b := upP t w) (by omega) a1
  have e1 : IntKind.i64.wrap (Int.tdiv (IntKind.i64.wrap (IntKind.i64.wrap (t + w) - 1)) w) = upP t w := by
    rw [wr64 (x := t + w) (by omega), wr64 (x := t + w - 1) (by omega)]
    exact wr64 (by unfold upP at a1 a2; omega)
  have e2 : IntKind.i64.wrap (Int.tdiv (IntKind.i64.wrap (IntKind.i64.wrap (t + upP t w) - 1)) (upP t w)) = upP t (upP t w) := by
    rw [wr64 (x := t + upP t w) (by omega), wr64 (x := t + upP t w - 1) (by omega)]
    exact wr64 (by unfold upP at b1 b2 ⊢; omega)
  have q1 : ¬ w = 0 := by omega
  have q2 : ¬ upP t w = 0 := by omega
  simp only [h1, h2, h3, h4, decide_false, Bool.false_eq_true, if_false, Option.bind_some, q1, not_false_eq_true, if_true, e1, q2, e2, show 1 ≤ t from by omega, show t ≤ 10000 from by omega, show 1 ≤ w from by omega, show w ≤ 32 from by omega, decide_true, Bool.and_self]
theorem aim_ref (t w : Int) : g_ref35_Aim t w = some (aimS t w) := by
  unfold g_ref35_Aim aimS
  rw [rwithin35, rwithin35]
  simp only [Option.bind_some]
  cases h1 : wiB t 1 10000
  · rfl
  cases h2 : wiB w 1 32
  · rfl
  have h1 := wiB_t h1
  have h2 := wiB_t h2
  obtain ⟨a1, a2⟩ := upP_ge (a := t) (b := w) (by omega) (by omega)
  obtain ⟨b1, b2⟩ := upP_ge (a := t) (b := upP t w) (by omega) a1
  have e1 : IntKind.i64.wrap (Int.tdiv (IntKind.i64.wrap (IntKind.i64.wrap (t + w) - 1)) w) = upP t w := by
    rw [wr64 (x := t + w) (by omega), wr64 (x := t + w - 1) (by omega)]
    exact wr64 (by unfold upP at a1 a2; omega)
  have e2 : IntKind.i64.wrap (Int.tdiv (IntKind.i64.wrap (IntKind.i64.wrap (t + upP t w) - 1)) (upP t w)) = upP t (upP t w) := by
    rw [wr64 (x := t + upP t w) (by omega), wr64 (x := t + upP t w - 1) (by omega)]
    exact wr64 (by unfold upP at b1 b2 ⊢; omega)
  have q1 : ¬ w = 0 := by omega
  have q2 : ¬ upP t w = 0 := by omega
  simp only [if_true, Bool.not_true, Bool.false_eq_true, if_false, Option.bind_some, q1, not_false_eq_true, e1, q2, e2, Bool.and_self]
def abD (a b : Int) : Int := if a - b < 0 then b - a else a - b
def stAt (t : T_api_Penalties) (k : Int) : Int := if k = 0 then t.Strength.a0 else if k = 1 then t.Strength.a1 else if k = 2 then t.Strength.a2 else if k = 3 then t.Strength.a3 else if k = 4 then t.Strength.a4 else if k = 5 then t.Strength.a5 else 0
theorem stAt_le {t : T_api_Penalties} (h : pcS t = 0) (k : Int) : 0 ≤ stAt t k ∧ stAt t k ≤ 1000000 := by
  have := pcS_0 h
  unfold stAt
  split
  · omega
  split
  · omega
  split
  · omega
  split
  · omega
  split
  · omega
  split
  · omega
  · omega
def rowS (t : T_api_Penalties) (aim len str : Int) : Int × Int := if pcS t ≠ 0 then (0, pcS t) else if wiB aim 1 32 && (wiB len 1 32 && wiB str (-1) 5) then (t.Row + t.Ragged * abD aim len + stAt t str, 0) else (0, 2)
theorem row_arith {t : T_api_Penalties} (h : pcS t = 0) {a b : Int} (ha : 1 ≤ a ∧ a ≤ 32) (hb : 1 ≤ b ∧ b ≤ 32) : 0 ≤ t.Ragged * abD a b ∧ t.Ragged * abD a b ≤ 31000000 ∧ 0 ≤ abD a b ∧ abD a b ≤ 31 := by
  have hp := pcS_0 h
  have h0 : 0 ≤ abD a b ∧ abD a b ≤ 31 := by unfold abD; split <;> omega
  have h1 : 0 ≤ t.Ragged * abD a b := Int.mul_nonneg (by omega) h0.1
  have h2 : t.Ragged * abD a b ≤ 1000000 * abD a b := Int.mul_le_mul_of_nonneg_right (by omega) h0.1
  omega
theorem rowS_le (t : T_api_Penalties) (aim len str : Int) : 0 ≤ (rowS t aim len str).1 ∧ (rowS t aim len str).1 ≤ 33000000 := by
  unfold rowS
  split
  · simp
  · rename_i h
    split
    · rename_i h2
      simp only [Bool.and_eq_true] at h2
      have hp := pcS_0 (by omega : pcS t = 0)
      have := row_arith (by omega : pcS t = 0) (wiB_t h2.1) (wiB_t h2.2.1)
      have := stAt_le (by omega : pcS t = 0) str
      dsimp only
      omega
    · simp
theorem row_prog (t : T_api_Penalties) (aim len str : Int) : g_penalty_Row t aim len str = some (rowS t aim len str) := by
  unfold g_penalty_Row rowS
  rw [pen_Check, pwithin, pwithin, pwithin]
  simp only [Option.bind_some]
  by_cases h : pcS t = 0
  rotate_left
  · simp [h]
  rw [if_neg (show ¬ (pcS t != 0) = true by simpa using h), if_neg (show ¬ pcS t ≠ 0 by omega)]
  cases h1 : wiB aim 1 32
  · rfl
  cases h2 : wiB len 1 32
  · rfl
  cases h3 : wiB str (-1) 5
  · rfl
  have h1 := wiB_t h1
  have h2 := wiB_t h2
  have h3 := wiB_t h3
  have hp := pcS_0 h
  obtain ⟨m1, m2, m3, m4⟩ := row_arith h h1 h2
  have e0 : (if IntKind.i64.wrap (len - aim) > IntKind.i64.wrap (aim - len) then IntKind.i64.wrap (len - aim) else IntKind.i64.wrap (aim - len)) = abD aim len := by
    rw [wr64 (by omega), wr64 (by omega)]
    unfold abD
    split <;> split <;> omega
  simp only [if_true, Bool.not_true, Bool.false_eq_true, if_false, Option.bind_some, Bool.and_self, e0]
  have w1 := wr64 (x := t.Ragged * abD aim len) (by omega)
  have w2 := wr64 (x := t.Row + t.Ragged * abD aim len) (by omega)
  rw [w1, w2]
  have hzb : 0 ≤ t.Row + t.Ragged * abD aim len ∧ t.Row + t.Ragged * abD aim len ≤ 32000000 := by omega
  generalize t.Row + t.Ragged * abD aim len = z at *
  have hz : ∀ k, 0 ≤ k → k ≤ 1000000 → IntKind.i64.wrap (z + k) = z + k := fun k _ _ => wr64 (by omega)
  have w3 := hz t.Strength.a0 (by omega) (by omega)
  have w4 := hz t.Strength.a1 (by omega) (by omega)
  have w5 := hz t.Strength.a2 (by omega) (by omega)
  have w6 := hz t.Strength.a3 (by omega) (by omega)
  have w7 := hz t.Strength.a4 (by omega) (by omega)
  have w8 := hz t.Strength.a5 (by omega) (by omega)
  rw [w3, w4, w5, w6, w7, w8]
  have hs : str = -1 ∨ str = 0 ∨ str = 1 ∨ str = 2 ∨ str = 3 ∨ str = 4 ∨ str = 5 := by omega
  rcases hs with rfl | rfl | rfl | rfl | rfl | rfl | rfl <;> simp [stAt]
theorem row_ref (t : T_api_Penalties) (aim len str : Int) : g_ref35_Row t aim len str = some (rowS t aim len str) := by
  unfold g_ref35_Row rowS
  rw [ref_penCheck, pen_Check, rwithin35, rwithin35, rwithin35]
  simp only [Option.bind_some]
  by_cases h : pcS t = 0
  rotate_left
  · simp [h]
  rw [if_neg (show ¬ (pcS t != 0) = true by simpa using h), if_neg (show ¬ pcS t ≠ 0 by omega)]
  cases h1 : wiB aim 1 32
  · rfl
  cases h2 : wiB len 1 32
  · rfl
  cases h3 : wiB str (-1) 5
  · rfl
  have h1 := wiB_t h1
  have h2 := wiB_t h2
  have h3 := wiB_t h3
  have hp := pcS_0 h
  obtain ⟨m1, m2, m3, m4⟩ := row_arith h h1 h2
  simp only [if_true, Bool.not_true, Bool.false_eq_true, if_false, Option.bind_some, Bool.and_self]
  rw [wr64 (x := aim - len) (by omega), wr64 (x := 0 - (aim - len)) (by omega)]
  have fin : ∀ d : Int, d = abD aim len → ∀ o : Option (Int × Int), o = some (t.Row + t.Ragged * abD aim len + stAt t str, 0) → True := fun _ _ _ _ => trivial
  have w1 := wr64 (x := t.Ragged * abD aim len) (by omega)
  have w2 := wr64 (x := t.Row + t.Ragged * abD aim len) (by omega)
  have hs : str = -1 ∨ str = 0 ∨ str = 1 ∨ str = 2 ∨ str = 3 ∨ str = 4 ∨ str = 5 := by omega
  by_cases hd : aim - len < 0
  · have e0 : 0 - (aim - len) = abD aim len := by unfold abD; rw [if_pos hd]; omega
    rw [if_pos (by simpa using hd), e0, w1, w2]
    have hzb : 0 ≤ t.Row + t.Ragged * abD aim len ∧ t.Row + t.Ragged * abD aim len ≤ 32000000 := by omega
    generalize t.Row + t.Ragged * abD aim len = z at *
    have hz : ∀ k, 0 ≤ k → k ≤ 1000000 → IntKind.i64.wrap (z + k) = z + k := fun k _ _ => wr64 (by omega)
    rw [hz t.Strength.a0 (by omega) (by omega), hz t.Strength.a1 (by omega) (by omega), hz t.Strength.a2 (by omega) (by omega), hz t.Strength.a3 (by omega) (by omega), hz t.Strength.a4 (by omega) (by omega), hz t.Strength.a5 (by omega) (by omega)]
    rcases hs with rfl | rfl | rfl | rfl | rfl | rfl | rfl <;> simp [stAt]
  · have e0 : aim - len = abD aim len := by unfold abD; rw [if_neg hd]
    rw [if_neg (by simpa using hd), e0, w1, w2]
    have hzb : 0 ≤ t.Row + t.Ragged * abD aim len ∧ t.Row + t.Ragged * abD aim len ≤ 32000000 := by omega
    generalize t.Row + t.Ragged * abD aim len = z at *
    have hz : ∀ k, 0 ≤ k → k ≤ 1000000 → IntKind.i64.wrap (z + k) = z + k := fun k _ _ => wr64 (by omega)
    rw [hz t.Strength.a0 (by omega) (by omega), hz t.Strength.a1 (by omega) (by omega), hz t.Strength.a2 (by omega) (by omega), hz t.Strength.a3 (by omega) (by omega), hz t.Strength.a4 (by omega) (by omega), hz t.Strength.a5 (by omega) (by omega)]
    rcases hs with rfl | rfl | rfl | rfl | rfl | rfl | rfl <;> simp [stAt]
def okLd (l : T_api_Load) : Bool := wiB l.Fast 0 5184000 && (wiB l.Gap 0 5184000 && (wiB l.Shots 0 400 && wiB l.Strength 0 5))
def evS (t : T_api_Penalties) (l : T_api_Load) : Int × Int := if pcS t ≠ 0 then (0, pcS t) else if okLd l then (t.Event + t.Fast * l.Fast + t.Gap * l.Gap + t.Shot * l.Shots + (if l.Last then 0 else stAt t l.Strength), 0) else (0, 2)
theorem mulb {a b m k : Int} (ha : 0 ≤ a ∧ a ≤ m) (hb : 0 ≤ b ∧ b ≤ k) : 0 ≤ a * b ∧ a * b ≤ m * k := by
  have h1 : 0 ≤ a * b := Int.mul_nonneg ha.1 hb.1
  have h2 : a * b ≤ m * b := Int.mul_le_mul_of_nonneg_right ha.2 hb.1
  have h3 : m * b ≤ m * k := Int.mul_le_mul_of_nonneg_left hb.2 (by omega)
  omega
theorem ev_arith {t : T_api_Penalties} {l : T_api_Load} (h : pcS t = 0) (hl : okLd l = true) : (0 ≤ t.Fast * l.Fast ∧ t.Fast * l.Fast ≤ 1000000 * 5184000) ∧ (0 ≤ t.Gap * l.Gap ∧ t.Gap * l.Gap ≤ 1000000 * 5184000) ∧ (0 ≤ t.Shot * l.Shots ∧ t.Shot * l.Shots ≤ 1000000 * 400) := by
  have hp := pcS_0 h
  unfold okLd at hl
  simp only [Bool.and_eq_true] at hl
  have a1 := wiB_t hl.1
  have a2 := wiB_t hl.2.1
  have a3 := wiB_t hl.2.2.1
  exact ⟨mulb (by omega) (by omega), mulb (by omega) (by omega), mulb (by omega) (by omega)⟩
theorem evS_le (t : T_api_Penalties) (l : T_api_Load) : 0 ≤ (evS t l).1 ∧ (evS t l).1 ≤ 20000000000000 := by
  unfold evS
  split
  · simp
  · rename_i h
    split
    · rename_i h2
      have hp := pcS_0 (by omega : pcS t = 0)
      have := ev_arith (by omega : pcS t = 0) h2
      have := stAt_le (by omega : pcS t = 0) l.Strength
      dsimp only
      split <;> omega
    · simp
theorem ev_fin {t : T_api_Penalties} {l : T_api_Load} (h : pcS t = 0) (hl : okLd l = true) : (if l.Last then (some ((IntKind.i64.wrap ((IntKind.i64.wrap ((IntKind.i64.wrap (t.Event + (IntKind.i64.wrap (t.Fast * l.Fast)))) + (IntKind.i64.wrap (t.Gap * l.Gap)))) + (IntKind.i64.wrap (t.Shot * l.Shots)))), 0)) else (if l.Strength == 0 then (some ((IntKind.i64.wrap ((IntKind.i64.wrap ((IntKind.i64.wrap ((IntKind.i64.wrap (t.Event + (IntKind.i64.wrap (t.Fast * l.Fast)))) + (IntKind.i64.wrap (t.Gap * l.Gap)))) + (IntKind.i64.wrap (t.Shot * l.Shots)))) + t.Strength.a0)), 0)) else (if l.Strength == 1 then (some ((IntKind.i64.wrap ((IntKind.i64.wrap ((IntKind.i64.wrap ((IntKind.i64.wrap (t.Event + (IntKind.i64.wrap (t.Fast * l.Fast)))) + (IntKind.i64.wrap (t.Gap * l.Gap)))) + (IntKind.i64.wrap (t.Shot * l.Shots)))) + t.Strength.a1)), 0)) else (if l.Strength == 2 then (some ((IntKind.i64.wrap ((IntKind.i64.wrap ((IntKind.i64.wrap ((IntKind.i64.wrap (t.Event + (IntKind.i64.wrap (t.Fast * l.Fast)))) + (IntKind.i64.wrap (t.Gap * l.Gap)))) + (IntKind.i64.wrap (t.Shot * l.Shots)))) + t.Strength.a2)), 0)) else (if l.Strength == 3 then (some ((IntKind.i64.wrap ((IntKind.i64.wrap ((IntKind.i64.wrap ((IntKind.i64.wrap (t.Event + (IntKind.i64.wrap (t.Fast * l.Fast)))) + (IntKind.i64.wrap (t.Gap * l.Gap)))) + (IntKind.i64.wrap (t.Shot * l.Shots)))) + t.Strength.a3)), 0)) else (if l.Strength == 4 then (some ((IntKind.i64.wrap ((IntKind.i64.wrap ((IntKind.i64.wrap ((IntKind.i64.wrap (t.Event + (IntKind.i64.wrap (t.Fast * l.Fast)))) + (IntKind.i64.wrap (t.Gap * l.Gap)))) + (IntKind.i64.wrap (t.Shot * l.Shots)))) + t.Strength.a4)), 0)) else (if l.Strength == 5 then (some ((IntKind.i64.wrap ((IntKind.i64.wrap ((IntKind.i64.wrap ((IntKind.i64.wrap (t.Event + (IntKind.i64.wrap (t.Fast * l.Fast)))) + (IntKind.i64.wrap (t.Gap * l.Gap)))) + (IntKind.i64.wrap (t.Shot * l.Shots)))) + t.Strength.a5)), 0)) else none)))))) : Option (Int × Int)) = some (t.Event + t.Fast * l.Fast + t.Gap * l.Gap + t.Shot * l.Shots + (if l.Last then 0 else stAt t l.Strength), 0) := by
  have hp := pcS_0 h
  obtain ⟨m1, m2, m3⟩ := ev_arith h hl
  unfold okLd at hl
  simp only [Bool.and_eq_true] at hl
  have h3 := wiB_t hl.2.2.2
  rw [wr64 (x := t.Fast * l.Fast) (by omega), wr64 (x := t.Gap * l.Gap) (by omega), wr64 (x := t.Shot * l.Shots) (by omega)]
  rw [wr64 (x := t.Event + t.Fast * l.Fast) (by omega), wr64 (x := t.Event + t.Fast * l.Fast + t.Gap * l.Gap) (by omega), wr64 (x := t.Event + t.Fast * l.Fast + t.Gap * l.Gap + t.Shot * l.Shots) (by omega)]
  generalize hzz : t.Event + t.Fast * l.Fast + t.Gap * l.Gap + t.Shot * l.Shots = z
  have hzb : 0 ≤ z ∧ z ≤ 20000000000000 := by omega
  have hz : ∀ k, 0 ≤ k → k ≤ 1000000 → IntKind.i64.wrap (z + k) = z + k := fun k _ _ => wr64 (by omega)
  rw [hz t.Strength.a0 (by omega) (by omega), hz t.Strength.a1 (by omega) (by omega), hz t.Strength.a2 (by omega) (by omega), hz t.Strength.a3 (by omega) (by omega), hz t.Strength.a4 (by omega) (by omega), hz t.Strength.a5 (by omega) (by omega)]
  generalize l.Strength = str at *
  have hs : str = 0 ∨ str = 1 ∨ str = 2 ∨ str = 3 ∨ str = 4 ∨ str = 5 := by omega
  cases l.Last
  · rcases hs with rfl | rfl | rfl | rfl | rfl | rfl <;> simp [stAt]
  · simp
theorem ev_prog (t : T_api_Penalties) (l : T_api_Load) : g_penalty_Event t l = some (evS t l) := by
  unfold g_penalty_Event evS
  rw [pen_Check, pwithin, pwithin, pwithin, pwithin]
  simp only [Option.bind_some]
  by_cases h : pcS t = 0
  rotate_left
  · simp [h]
  rw [if_neg (show ¬ (pcS t != 0) = true by simpa using h), if_neg (show ¬ pcS t ≠ 0 by omega)]
  by_cases hl : okLd l = true
  · rw [if_pos hl]
    have hl2 := hl
    unfold okLd at hl2
    simp only [Bool.and_eq_true] at hl2
    simp only [hl2.1, hl2.2.1, hl2.2.2.1, hl2.2.2.2, if_true, Bool.not_true, Bool.false_eq_true, if_false, Option.bind_some]
    exact ev_fin h hl
  · rw [if_neg hl]
    unfold okLd at hl
    cases h1 : wiB l.Fast 0 5184000
    · rfl
    cases h2 : wiB l.Gap 0 5184000
    · rfl
    cases h3 : wiB l.Shots 0 400
    · rfl
    cases h4 : wiB l.Strength 0 5
    · rfl
    exact absurd (by rw [h1, h2, h3, h4]; rfl) hl
theorem opt6 (l : T_api_Load) : (if (decide (l.Fast < 0)) then (some true) else (if (decide (5184000 < l.Fast)) then (some true) else (if (decide (l.Gap < 0)) then (some true) else (if (decide (5184000 < l.Gap)) then (some true) else (if (decide (l.Shots < 0)) then (some true) else (if (decide (400 < l.Shots)) then (some true) else some (!wiB l.Strength 0 5)))))) : Option Bool) = some (!okLd l) := by
  unfold okLd
  have e : ∀ n lo hi : Int, wiB n lo hi = (!decide (n < lo) && !decide (hi < n)) := fun n lo hi => by
    unfold wiB
    by_cases h1 : n < lo
    · simp [h1, show ¬ lo ≤ n from by omega]
    · by_cases h2 : hi < n
      · simp [h1, h2, show ¬ n ≤ hi from by omega]
      · simp [h1, h2, show lo ≤ n from by omega, show n ≤ hi from by omega]
  rw [e l.Fast, e l.Gap, e l.Shots]
  cases decide (l.Fast < 0) <;> cases decide (5184000 < l.Fast) <;> cases decide (l.Gap < 0) <;> cases decide (5184000 < l.Gap) <;> cases decide (l.Shots < 0) <;> cases decide (400 < l.Shots) <;> rfl
theorem ev_ref (t : T_api_Penalties) (l : T_api_Load) : g_ref35_Event t l = some (evS t l) := by
  unfold g_ref35_Event evS
  rw [ref_penCheck, pen_Check, rwithin35]
  simp only [Option.bind_some]
  rw [opt6]
  by_cases h : pcS t = 0
  rotate_left
  · simp [h]
  rw [if_neg (show ¬ (pcS t != 0) = true by simpa using h), if_neg (show ¬ pcS t ≠ 0 by omega)]
  by_cases hl : okLd l = true
  · rw [if_pos hl]
    simp only [hl, Bool.not_true, Bool.false_eq_true, if_false, Option.bind_some]
    exact ev_fin h hl
  · rw [if_neg hl]
    simp [hl]
end Go.Proofs.YtalfcmgcjdkolaaGreatDoor
namespace Go.Proofs.YtalfcmgcjdkolaaGreatDoor
def Lst (P : Int → Prop) (v : Int) : Prop := (v = -1 ∧ ∀ x, ¬ P x) ∨ (0 ≤ v ∧ P v ∧ ∀ x, P x → v ≤ x)
theorem Lst.uniq {P : Int → Prop} {v w : Int} (h : Lst P v) (k : Lst P w) : v = w := by
  rcases h with ⟨h1, h2⟩ | ⟨h1, h2, h3⟩
  · rcases k with ⟨k1, _⟩ | ⟨_, k2, _⟩
    · rw [h1, k1]
    · exact absurd k2 (h2 _)
  · rcases k with ⟨_, k2⟩ | ⟨_, k2, k3⟩
    · exact absurd h2 (k2 _)
    · have := h3 _ k2; have := k3 _ h2; omega
theorem Lst.congr {P Q : Int → Prop} {v : Int} (e : ∀ x, P x ↔ Q x) (h : Lst P v) : Lst Q v := by
  have : P = Q := funext fun x => propext (e x)
  rw [← this]; exact h
theorem Lst.ge {P : Int → Prop} {v : Int} (h : Lst P v) : -1 ≤ v := by
  rcases h with ⟨h1, _⟩ | ⟨h1, _⟩ <;> omega
theorem Lst.mem {P : Int → Prop} {v : Int} (h : Lst P v) (hv : v ≠ -1) : 0 ≤ v ∧ P v ∧ ∀ x, P x → v ≤ x := by
  rcases h with ⟨h1, _⟩ | h
  · exact absurd h1 hv
  · exact h
theorem Lst.has {P : Int → Prop} {v x : Int} (h : Lst P v) (hx : P x) : v ≠ -1 ∧ 0 ≤ v ∧ v ≤ x := by
  rcases h with ⟨_, h2⟩ | ⟨h1, _, h3⟩
  · exact absurd hx (h2 _)
  · exact ⟨by omega, h1, h3 _ hx⟩
theorem Lst.none : Lst (fun _ => False) (-1) := .inl ⟨rfl, fun _ h => h⟩
theorem Lst.join {P Q : Int → Prop} {v w : Int} (h : Lst P v) (k : Lst Q w) : Lst (fun x => P x ∨ Q x) (if w = -1 then v else if v = -1 ∨ w < v then w else v) := by
  by_cases hw : w = -1
  · rw [if_pos hw]
    have kn : ∀ x, ¬ Q x := by
      rcases k with ⟨_, k2⟩ | ⟨k1, _⟩
      · exact k2
      · omega
    exact h.congr fun x => ⟨.inl, fun h => h.elim id fun q => absurd q (kn x)⟩
  · obtain ⟨k1, k2, k3⟩ := k.mem hw
    rw [if_neg hw]
    by_cases hv : v = -1
    · rw [if_pos (.inl hv)]
      have hn : ∀ x, ¬ P x := by
        rcases h with ⟨_, h2⟩ | ⟨h1, _⟩
        · exact h2
        · omega
      exact .inr ⟨k1, .inr k2, fun x hx => hx.elim (fun q => absurd q (hn x)) (k3 x)⟩
    · obtain ⟨h1, h2, h3⟩ := h.mem hv
      by_cases hl : w < v
      · rw [if_pos (.inr hl)]
        exact .inr ⟨k1, .inr k2, fun x hx => hx.elim (fun q => by have := h3 x q; omega) (k3 x)⟩
      · rw [if_neg (by omega)]
        exact .inr ⟨h1, .inl h2, fun x hx => hx.elim (h3 x) (fun q => by have := k3 x q; omega)⟩
theorem Lst.shift {P : Int → Prop} {v c : Int} (h : Lst P v) (hc : 0 ≤ c) : Lst (fun x => ∃ y, P y ∧ x = c + y) (if v = -1 then -1 else c + v) := by
  by_cases hv : v = -1
  · rw [if_pos hv]
    refine .inl ⟨rfl, ?_⟩
    rintro x ⟨y, hy, rfl⟩
    rcases h with ⟨_, h2⟩ | ⟨h1, _⟩
    · exact h2 y hy
    · omega
  · rw [if_neg hv]
    obtain ⟨h1, h2, h3⟩ := h.mem hv
    refine .inr ⟨by omega, ⟨v, h2, rfl⟩, ?_⟩
    rintro x ⟨y, hy, rfl⟩
    have := h3 y hy; omega
section
variable {n : Nat} {fit : Nat → Nat → Bool} {c : Nat → Nat → Int}
variable (n fit c) in
inductive Pth : Nat → Nat → Int → Prop
  | nil : Pth 0 n 0
  | cons {r i j : Nat} {x : Int} : i < j → j ≤ n → fit i j = true → Pth r j x → Pth (r + 1) i (c i j + x)
variable (n fit c) in
def AtM (m i : Nat) (x : Int) : Prop := ∃ r, r ≤ m ∧ Pth n fit c r i x
variable (fit c) in
def Cand (Q : Nat → Int → Prop) (i J : Nat) (x : Int) : Prop := ∃ j y, i < j ∧ j < J ∧ fit i j = true ∧ Q j y ∧ x = c i j + y
theorem cand_start (Q : Nat → Int → Prop) (i : Nat) : Lst (Cand fit c Q i (i + 1)) (-1) :=
  .inl ⟨rfl, fun x ⟨j, y, h1, h2, _⟩ => by omega⟩
theorem cand_step {Q : Nat → Int → Prop} {i J : Nat} {v w : Int} (hi : i < J) (hf : fit i J = true) (hc : 0 ≤ c i J) (h : Lst (Cand fit c Q i J) v) (k : Lst (Q J) w) : Lst (Cand fit c Q i (J + 1)) (if w = -1 then v else if v = -1 ∨ c i J + w < v then c i J + w else v) := by
  have h2 := h.join (k.shift hc)
  have e : (if (if w = -1 then -1 else c i J + w) = -1 then v else if v = -1 ∨ (if w = -1 then -1 else c i J + w) < v then (if w = -1 then -1 else c i J + w) else v) = (if w = -1 then v else if v = -1 ∨ c i J + w < v then c i J + w else v) := by
    by_cases hw : w = -1
    · simp [hw]
    · have := k.ge
      have : ¬ c i J + w = -1 := by omega
      simp [hw, this]
  rw [e] at h2
  refine h2.congr fun x => ⟨?_, ?_⟩
  · rintro (⟨j, y, a1, a2, a3, a4, a5⟩ | ⟨y, a4, a5⟩)
    · exact ⟨j, y, a1, by omega, a3, a4, a5⟩
    · exact ⟨J, y, hi, by omega, hf, a4, a5⟩
  · rintro ⟨j, y, a1, a2, a3, a4, a5⟩
    by_cases hj : j = J
    · subst hj; exact .inr ⟨y, a4, a5⟩
    · exact .inl ⟨j, y, a1, by omega, a3, a4, a5⟩
theorem cand_end {Q : Nat → Int → Prop} {i J : Nat} {v : Int} (hJ : J ≤ n + 1) (hmono : J ≤ n → ∀ k, J ≤ k → k ≤ n → fit i k = false) (h : Lst (Cand fit c Q i J) v) : Lst (Cand fit c Q i (n + 1)) v := by
  refine h.congr fun x => ⟨?_, ?_⟩
  · rintro ⟨j, y, a1, a2, a3, a4, a5⟩
    exact ⟨j, y, a1, by omega, a3, a4, a5⟩
  · rintro ⟨j, y, a1, a2, a3, a4, a5⟩
    refine ⟨j, y, a1, ?_, a3, a4, a5⟩
    rcases Nat.lt_or_ge j J with hlt | hge
    · exact hlt
    · rw [hmono (by omega) j hge (by omega)] at a3; cases a3
theorem pth_zero {i : Nat} {x : Int} : Pth n fit c 0 i x ↔ i = n ∧ x = 0 :=
  ⟨fun h => by cases h; exact ⟨rfl, rfl⟩, fun ⟨h1, h2⟩ => by subst h1 h2; exact .nil⟩
theorem pth_succ {r i : Nat} {x : Int} : Pth n fit c (r + 1) i x ↔ Cand fit c (Pth n fit c r) i (n + 1) x :=
  ⟨fun h => by cases h with | cons a1 a2 a3 a4 => exact ⟨_, _, a1, by omega, a3, a4, rfl⟩, fun ⟨j, y, a1, a2, a3, a4, a5⟩ => by subst a5; exact .cons a1 (by omega) a3 a4⟩
theorem pth_end {r : Nat} {x : Int} (h : Pth n fit c (r + 1) n x) : False := by
  cases h with | cons a1 a2 _ _ => omega
theorem atm_n {m : Nat} {x : Int} : AtM n fit c m n x ↔ x = 0 :=
  ⟨fun ⟨r, _, h⟩ => by cases r with | zero => exact (pth_zero.1 h).2 | succ r => exact (pth_end h).elim, fun h => ⟨0, Nat.zero_le _, pth_zero.2 ⟨rfl, h⟩⟩⟩
theorem atm_zero {i : Nat} {x : Int} (hi : i ≠ n) : ¬ AtM n fit c 0 i x := fun ⟨r, h1, h⟩ => by
  obtain rfl : r = 0 := by omega
  exact hi (pth_zero.1 h).1
theorem atm_succ {m i : Nat} {x : Int} (hi : i ≠ n) : AtM n fit c (m + 1) i x ↔ Cand fit c (AtM n fit c m) i (n + 1) x := by
  constructor
  · rintro ⟨r, h1, h⟩
    cases r with
    | zero => exact absurd (pth_zero.1 h).1 hi
    | succ r =>
      obtain ⟨j, y, a1, a2, a3, a4, a5⟩ := pth_succ.1 h
      exact ⟨j, y, a1, a2, a3, ⟨r, by omega, a4⟩, a5⟩
  · rintro ⟨j, y, a1, a2, a3, ⟨r, h1, a4⟩, a5⟩
    exact ⟨r + 1, by omega, pth_succ.2 ⟨j, y, a1, a2, a3, a4, a5⟩⟩
theorem atm_join {m i : Nat} {v w : Int} (h : Lst (AtM n fit c m i) v) (k : Lst (Pth n fit c (m + 1) i) w) : Lst (AtM n fit c (m + 1) i) (if w = -1 then v else if v = -1 ∨ w < v then w else v) := by
  refine (h.join k).congr fun x => ⟨?_, ?_⟩
  · rintro (⟨r, h1, h⟩ | h)
    · exact ⟨r, by omega, h⟩
    · exact ⟨m + 1, Nat.le_refl _, h⟩
  · rintro ⟨r, h1, h⟩
    by_cases e : r = m + 1
    · subst e; exact .inr h
    · exact .inl ⟨r, by omega, h⟩
theorem atm_0 {i : Nat} {v : Int} (h : Lst (Pth n fit c 0 i) v) : Lst (AtM n fit c 0 i) v := by
  refine h.congr fun x => ⟨fun h => ⟨0, Nat.le_refl _, h⟩, ?_⟩
  rintro ⟨r, h1, h⟩
  obtain rfl : r = 0 := by omega
  exact h
variable {E A : Nat → Nat → Int} {R : Nat}
def OkS (fit : Nat → Nat → Bool) (c : Nat → Nat → Int) (E : Nat → Nat → Int) (r i j : Nat) : Prop := fit i j = true ∧ E r j ≠ -1 ∧ c i j + E r j = E (r + 1) i
variable (n fit c E) in
inductive Gr : Nat → Nat → List Nat → Prop
  | nil : Gr 0 n []
  | cons {r i j : Nat} {L : List Nat} : i < j → j ≤ n → OkS fit c E r i j → (∀ k, i < k → k < j → ¬ OkS fit c E r i k) → Gr r j L → Gr (r + 1) i (j :: L)
theorem first_of {P : Nat → Prop} : ∀ (m i : Nat), (∃ j, i < j ∧ j ≤ i + m ∧ P j) → ∃ j, i < j ∧ j ≤ i + m ∧ P j ∧ ∀ k, i < k → k < j → ¬ P k
  | 0, i, ⟨j, h1, h2, _⟩ => by omega
  | m + 1, i, ⟨j, h1, h2, h3⟩ => by
    by_cases hp : P (i + 1)
    · exact ⟨i + 1, by omega, by omega, hp, fun k _ _ => by omega⟩
    · have hj : j ≠ i + 1 := fun e => hp (e ▸ h3)
      obtain ⟨j', a1, a2, a3, a4⟩ := first_of m (i + 1) ⟨j, by omega, by omega, h3⟩
      refine ⟨j', by omega, by omega, a3, fun k k1 k2 => ?_⟩
      by_cases e : k = i + 1
      · rw [e]; exact hp
      · exact a4 k (by omega) k2
theorem gr_step (hE : ∀ r i, r ≤ R → i ≤ n → Lst (Pth n fit c r i) (E r i)) {r i : Nat} (hr : r + 1 ≤ R) (hi : i ≤ n) (hv : E (r + 1) i ≠ -1) : ∃ j, i < j ∧ j ≤ n ∧ OkS fit c E r i j ∧ ∀ k, i < k → k < j → ¬ OkS fit c E r i k := by
  obtain ⟨_, h2, h3⟩ := (hE (r + 1) i hr hi).mem hv
  obtain ⟨j, y, a1, a2, a3, a4, a5⟩ := pth_succ.1 h2
  have k := (hE r j (by omega) (by omega)).has a4
  have hm := (hE r j (by omega) (by omega)).mem k.1
  have hle := h3 _ (Pth.cons a1 (by omega) a3 hm.2.1)
  have hok : OkS fit c E r i j := ⟨a3, k.1, by have := k.2.2; omega⟩
  obtain ⟨j', b1, b2, b3, b4⟩ := first_of (P := OkS fit c E r i) (n - i) i ⟨j, a1, by omega, hok⟩
  exact ⟨j', b1, by omega, b3, b4⟩
theorem gr_exists (hE : ∀ r i, r ≤ R → i ≤ n → Lst (Pth n fit c r i) (E r i)) : ∀ (r i : Nat), r ≤ R → i ≤ n → E r i ≠ -1 → ∃ L, Gr n fit c E r i L
  | 0, i, hr, hi, hv => by
    have := ((hE 0 i hr hi).mem hv).2.1
    obtain ⟨rfl, _⟩ := pth_zero.1 this
    exact ⟨[], .nil⟩
  | r + 1, i, hr, hi, hv => by
    obtain ⟨j, b1, b2, b3, b4⟩ := gr_step hE hr hi hv
    obtain ⟨L, hL⟩ := gr_exists hE r j (by omega) b2 b3.2.1
    exact ⟨j :: L, .cons b1 b2 b3 b4 hL⟩
theorem gr_len {r i : Nat} {L : List Nat} (h : Gr n fit c E r i L) : L.length = r := by
  induction h with
  | nil => rfl
  | cons _ _ _ _ _ ih => simp [ih]
def Tight (E : Nat → Nat → Int) (r i : Nat) : Prop := E r i ≠ -1 ∧ ∀ s, s < r → E s i = -1 ∨ E r i < E s i
theorem tight_A (hE : ∀ r i, r ≤ R → i ≤ n → Lst (Pth n fit c r i) (E r i)) (hA : ∀ m i, m ≤ R → i ≤ n → Lst (AtM n fit c m i) (A m i)) {r i : Nat} (hr : r ≤ R) (hi : i ≤ n) (ht : Tight E r i) : A r i = E r i := by
  obtain ⟨h1, h2, h3⟩ := (hE r i hr hi).mem ht.1
  refine Lst.uniq (hA r i hr hi) (.inr ⟨h1, ⟨r, Nat.le_refl _, h2⟩, ?_⟩)
  rintro x ⟨s, hs, hx⟩
  by_cases e : s = r
  · subst e; exact h3 x hx
  · have k := (hE s i (by omega) hi).has hx
    rcases ht.2 s (by omega) with q | q
    · exact absurd q k.1
    · have := k.2.2; omega
theorem step_le (hE : ∀ r i, r ≤ R → i ≤ n → Lst (Pth n fit c r i) (E r i)) {r i j : Nat} (hr : r + 1 ≤ R) (hi : i < j) (hj : j ≤ n) (hf : fit i j = true) (hv : E r j ≠ -1) : E (r + 1) i ≠ -1 ∧ E (r + 1) i ≤ c i j + E r j := by
  have hm := (hE r j (by omega) hj).mem hv
  have := (hE (r + 1) i hr (by omega)).has (Pth.cons hi hj hf hm.2.1)
  exact ⟨this.1, this.2.2⟩
theorem tight_cond (hE : ∀ r i, r ≤ R → i ≤ n → Lst (Pth n fit c r i) (E r i)) (hA : ∀ m i, m ≤ R → i ≤ n → Lst (AtM n fit c m i) (A m i)) {r i j : Nat} (hr : r + 1 ≤ R) (hi : i < j) (hj : j ≤ n) (ht : Tight E (r + 1) i) :
    (fit i j = true ∧ 0 ≤ A r j ∧ c i j + A r j = A (r + 1) i) ↔ OkS fit c E r i j := by
  have hAi := tight_A hE hA hr (by omega) ht
  have key : ∀ s, s ≤ r → E s j ≠ -1 → fit i j = true → c i j + E s j ≤ E (r + 1) i → s = r := by
    intro s hs hv hf hle
    by_cases e : s = r
    · exact e
    · have := step_le hE (r := s) (by omega) hi hj hf hv
      rcases ht.2 (s + 1) (by omega) with q | q
      · exact absurd q this.1
      · omega
  constructor
  · rintro ⟨hf, h0, he⟩
    obtain ⟨_, ⟨s, hs, hp⟩, _⟩ := (hA r j (by omega) hj).mem (by omega)
    have k := (hE s j (by omega) hj).has hp
    have hsr := key s hs k.1 hf (by have := k.2.2; omega)
    subst hsr
    have hm := (hE s j (by omega) hj).mem k.1
    have h2 := (hA s j (by omega) hj).has ⟨s, Nat.le_refl _, hm.2.1⟩
    exact ⟨hf, k.1, by have := k.2.2; have := h2.2.2; omega⟩
  · rintro ⟨hf, hv, he⟩
    have hm := (hE r j (by omega) hj).mem hv
    have h2 := (hA r j (by omega) hj).has ⟨r, Nat.le_refl _, hm.2.1⟩
    obtain ⟨_, ⟨s, hs, hp⟩, _⟩ := (hA r j (by omega) hj).mem h2.1
    have k := (hE s j (by omega) hj).has hp
    have hsr := key s hs k.1 hf (by have := k.2.2; have := h2.2.2; omega)
    subst hsr
    exact ⟨hf, h2.2.1, by have := k.2.2; have := h2.2.2; omega⟩
theorem tight_next (hE : ∀ r i, r ≤ R → i ≤ n → Lst (Pth n fit c r i) (E r i)) {r i j : Nat} (hr : r + 1 ≤ R) (hi : i < j) (hj : j ≤ n) (ht : Tight E (r + 1) i) (hok : OkS fit c E r i j) : Tight E r j := by
  refine ⟨hok.2.1, fun s hs => ?_⟩
  by_cases hv : E s j = -1
  · exact .inl hv
  · right
    have := step_le hE (r := s) (by omega) hi hj hok.1 hv
    have h3 := hok.2.2
    rcases ht.2 (s + 1) (by omega) with q | q
    · exact absurd q this.1
    · omega
end
end Go.Proofs.YtalfcmgcjdkolaaGreatDoor
namespace Go.Proofs.YtalfcmgcjdkolaaGreatDoor
set_option maxRecDepth 100000
structure Pok (p : T_api_Paragraph) : Prop where
  toks : p.Tokens.length ≤ 8
  texts : ∀ t ∈ p.Tokens, t.Text.length ≤ 1048576
def ckTk (t : T_api_Token) : Int := if t.Text = [] ∨ hasSp t.Text = true then 4 else if gv t.Text = false then 10 else if t.Strength < 0 ∨ 5 < t.Strength then 2 else 0
def ckTks : List T_api_Token → Int
  | [] => 0
  | t :: l => if ckTk t ≠ 0 then ckTk t else ckTks l
theorem toks_prog (l : List T_api_Token) (hl : l.length ≤ 8) (h : ∀ t ∈ l, t.Text.length ≤ 1048576) : g_token_Check l = some (ckTks l) := by
  unfold g_token_Check
  rw [if_neg (by simp; omega)]
  have key := iter_idx (step := g_token_Check_s1 l) l.length (by omega) (fun i => if ckTks (l.drop i) = 0 then .inr () else .inl (ckTks (l.drop i))) (fun i hi => ?_) ?_
  · rw [List.drop_zero] at key
    rw [key]
    simp only [Option.bind_some]
    split
    · rename_i e he; split at he <;> cases he; rfl
    · rename_i e he; split at he
      · rename_i h0; rw [h0]
      · cases he
  · have ht := h _ (List.getElem_mem hi)
    unfold g_token_Check_s1
    rw [if_pos (by simpa using hi), atI_nat hi, List.drop_eq_getElem_cons hi, wr64 (by omega)]
    simp only [Option.bind_some, cont_eq, prog_Valid_eq _ (show l[i].Text.length ≤ 140737488355328 by omega), ckTks]
    generalize l[i] = t
    unfold ckTk
    by_cases h1 : t.Text = []
    · right; simp [h1]
    · have hb : (t.Text == ([] : List UInt8)) = false := by simpa using h1
      simp only [hb, Bool.false_eq_true, if_false, Option.bind_some, h1, false_or]
      cases hasSp t.Text
      · cases gv t.Text
        · right; simp
        · by_cases h2 : t.Strength < 0
          · right; simp [h2]
          · by_cases h3 : 5 < t.Strength
            · right; simp [h2, h3]
            · left; simp [h2, h3]
      · right; simp
  · unfold g_token_Check_s1
    rw [if_neg (by simp)]
    simp [ckTks]
theorem toks_ref (l : List T_api_Token) (hl : l.length ≤ 8) (h : ∀ t ∈ l, t.Text.length ≤ 1048576) : g_ref34_Check l = some (ckTks l) := by
  unfold g_ref34_Check
  rw [if_neg (by simp; omega)]
  have key := iter_idx (step := g_ref34_Check_s1 l) l.length (by omega) (fun i => if ckTks (l.drop i) = 0 then .inr () else .inl (ckTks (l.drop i))) (fun i hi => ?_) ?_
  · rw [List.drop_zero] at key
    rw [key]
    simp only [Option.bind_some]
    split
    · rename_i e he; split at he <;> cases he; rfl
    · rename_i e he; split at he
      · rename_i h0; rw [h0]
      · cases he
  · have ht := h _ (List.getElem_mem hi)
    unfold g_ref34_Check_s1
    rw [if_pos (by simpa using hi), atI_nat hi, List.drop_eq_getElem_cons hi, wr64 (by omega)]
    simp only [Option.bind_some, ckTks]
    generalize l[i] = t at ht
    rw [sp_loop (step := g_ref34_Check_s2 t) t.Text (by omega) (fun x => rfl), ref_Valid_eq _ (show t.Text.length ≤ 140737488355328 by omega)]
    unfold ckTk
    by_cases h1 : t.Text = []
    · right; simp [h1]
    · have hb : (t.Text == ([] : List UInt8)) = false := by simpa using h1
      simp only [hb, Bool.false_eq_true, if_false, Option.bind_some, h1, false_or]
      cases hasSp t.Text
      · cases gv t.Text
        · right; simp
        · by_cases h2 : t.Strength < 0
          · right; simp [h2]
          · by_cases h3 : 5 < t.Strength
            · right; simp [h2, h3]
            · left; simp [h2, h3]
      · right; simp
  · unfold g_ref34_Check_s1
    rw [if_neg (by simp)]
    simp [ckTks]
def ckP (p : T_api_Paragraph) : Int := if ckTks p.Tokens ≠ 0 then ckTks p.Tokens else if p.Tokens = [] then 6 else if p.Width < 1 ∨ 32 < p.Width ∨ p.Rows < 1 ∨ 4 < p.Rows then 2 else pcS p.Table
theorem opt4 (p : T_api_Paragraph) : (if (decide (p.Width < 1)) then (some true) else (if (decide (32 < p.Width)) then (some true) else (if (decide (p.Rows < 1)) then (some true) else (some (decide (4 < p.Rows))))) : Option Bool) = some (decide (p.Width < 1 ∨ 32 < p.Width ∨ p.Rows < 1 ∨ 4 < p.Rows)) := by
  by_cases h1 : p.Width < 1
  · simp [h1]
  by_cases h2 : 32 < p.Width
  · simp [h1, h2]
  by_cases h3 : p.Rows < 1
  · simp [h1, h2, h3]
  · simp [h1, h2, h3]
theorem par_prog {p : T_api_Paragraph} (h : Pok p) : g_rowbreak_Check p = some (ckP p) := by
  unfold g_rowbreak_Check ckP
  rw [toks_prog _ h.toks h.texts, opt4, pen_Check]
  simp only [Option.bind_some]
  by_cases h1 : ckTks p.Tokens = 0
  · simp only [h1, bne_self_eq_false, Bool.false_eq_true, if_false, ne_eq, not_true]
    by_cases h2 : p.Tokens = []
    · simp [h2]
    · have : ((p.Tokens.length : Int) == 0) = false := by
        have := List.length_pos_iff.2 h2
        simpa using (by omega : ¬ (p.Tokens.length : Int) = 0)
      simp only [this, Bool.false_eq_true, if_false, h2]
      by_cases h3 : p.Width < 1 ∨ 32 < p.Width ∨ p.Rows < 1 ∨ 4 < p.Rows <;> simp [h3]
  · simp [h1]
theorem par_ref {p : T_api_Paragraph} (h : Pok p) : g_ref36_Check p = some (ckP p) := by
  unfold g_ref36_Check ckP
  rw [toks_ref _ h.toks h.texts, opt4, ref_penCheck, pen_Check]
  simp only [Option.bind_some]
  by_cases h1 : ckTks p.Tokens = 0
  · simp only [h1, bne_self_eq_false, Bool.false_eq_true, if_false, ne_eq, not_true]
    by_cases h2 : p.Tokens = []
    · simp [h2]
    · have : ((p.Tokens.length : Int) == 0) = false := by
        have := List.length_pos_iff.2 h2
        simpa using (by omega : ¬ (p.Tokens.length : Int) = 0)
      simp only [this, Bool.false_eq_true, if_false, h2]
      by_cases h3 : p.Width < 1 ∨ 32 < p.Width ∨ p.Rows < 1 ∨ 4 < p.Rows <;> simp [h3]
  · simp [h1]
theorem ckTks_0 : ∀ {l : List T_api_Token}, ckTks l = 0 → ∀ t ∈ l, t.Text ≠ [] ∧ gv t.Text = true ∧ 0 ≤ t.Strength ∧ t.Strength ≤ 5
  | [], _, t, ht => by cases ht
  | u :: l, h, t, ht => by
    unfold ckTks at h
    by_cases hu : ckTk u = 0
    · rw [if_neg (by omega)] at h
      rcases List.mem_cons.1 ht with rfl | ht
      · unfold ckTk at hu
        by_cases h1 : t.Text = [] ∨ hasSp t.Text = true
        · rw [if_pos h1] at hu; cases hu
        · rw [if_neg h1] at hu
          by_cases h2 : gv t.Text = false
          · rw [if_pos h2] at hu; cases hu
          · rw [if_neg h2] at hu
            by_cases h3 : t.Strength < 0 ∨ 5 < t.Strength
            · rw [if_pos h3] at hu; cases hu
            · exact ⟨fun e => h1 (.inl e), by simpa using h2, by omega, by omega⟩
      · exact ckTks_0 h t ht
    · rw [if_pos hu] at h; exact absurd h hu
structure Pv (p : T_api_Paragraph) : Prop where
  ok : Pok p
  ne : p.Tokens ≠ []
  tok : ∀ t ∈ p.Tokens, t.Text ≠ [] ∧ gv t.Text = true ∧ 0 ≤ t.Strength ∧ t.Strength ≤ 5
  width : 1 ≤ p.Width ∧ p.Width ≤ 32
  rows : 1 ≤ p.Rows ∧ p.Rows ≤ 4
  table : pcS p.Table = 0
theorem ckP_0 {p : T_api_Paragraph} (h : Pok p) (h0 : ckP p = 0) : Pv p := by
  unfold ckP at h0
  by_cases h1 : ckTks p.Tokens = 0
  · rw [if_neg (by omega)] at h0
    by_cases h2 : p.Tokens = []
    · rw [if_pos h2] at h0; cases h0
    · rw [if_neg h2] at h0
      by_cases h3 : p.Width < 1 ∨ 32 < p.Width ∨ p.Rows < 1 ∨ 4 < p.Rows
      · rw [if_pos h3] at h0; cases h0
      · rw [if_neg h3] at h0
        exact ⟨h, h2, ckTks_0 h1, by omega, by omega, h0⟩
  · rw [if_pos h1] at h0; exact absurd h0 h1
def tlen (p : T_api_Paragraph) (k : Nat) : Int := chL (p.Tokens[k]?.getD ⟨[], 0⟩).Text
def smP (p : T_api_Paragraph) : Nat → Int
  | 0 => 0
  | k + 1 => smP p k + tlen p k
def lnP (p : T_api_Paragraph) (i j : Nat) : Int := smP p j - smP p i + j - i - 1
theorem tlen_at (p : T_api_Paragraph) {k : Nat} (h : k < p.Tokens.length) : tlen p k = chL p.Tokens[k].Text := by simp [tlen, h]
theorem tlen_le {p : T_api_Paragraph} (h : Pok p) {k : Nat} (hk : k < p.Tokens.length) : -1 ≤ tlen p k ∧ tlen p k ≤ 1048576 := by
  rw [tlen_at p hk]; exact chL_le _ (h.texts _ (List.getElem_mem hk))
theorem smP_le {p : T_api_Paragraph} (h : Pok p) : ∀ {k : Nat}, k ≤ p.Tokens.length → -(k : Int) ≤ smP p k ∧ smP p k ≤ (k : Int) * 1048576
  | 0, _ => by simp [smP]
  | k + 1, hk => by
    have := smP_le h (k := k) (by omega)
    have := tlen_le h (k := k) (by omega)
    unfold smP
    omega
theorem smP_b {p : T_api_Paragraph} (h : Pok p) {k : Nat} (hk : k ≤ p.Tokens.length) : -8 ≤ smP p k ∧ smP p k ≤ 8388608 := by
  have := smP_le h hk
  have := h.toks
  omega
theorem tlen_pos {p : T_api_Paragraph} (h : Pv p) {k : Nat} (hk : k < p.Tokens.length) : 1 ≤ tlen p k := by
  rw [tlen_at p hk]
  have := h.tok _ (List.getElem_mem hk)
  exact chL_pos this.2.1 this.1
theorem smP_lt {p : T_api_Paragraph} (h : Pv p) {i : Nat} : ∀ {j : Nat}, i ≤ j → j ≤ p.Tokens.length → smP p i + ((j : Int) - i) ≤ smP p j
  | 0, hij, _ => by obtain rfl : i = 0 := by omega
                    simp
  | j + 1, hij, hj => by
    by_cases e : i = j + 1
    · subst e; omega
    · have := smP_lt h (i := i) (j := j) (by omega) (by omega)
      have := tlen_pos h (k := j) (by omega)
      rw [show smP p (j + 1) = smP p j + tlen p j from rfl]
      omega
def fitP (p : T_api_Paragraph) (i j : Nat) : Bool := decide (lnP p i j ≤ p.Width)
theorem fit_mono {p : T_api_Paragraph} (h : Pv p) {i j k : Nat} (hij : i < j) (hjk : j ≤ k) (hk : k ≤ p.Tokens.length) (hf : fitP p i j = false) : fitP p i k = false := by
  have := smP_lt h hjk hk
  unfold fitP lnP at *
  simp only [decide_eq_false_iff_not] at *
  omega
def aimP (p : T_api_Paragraph) : Int := (aimS (lnP p 0 p.Tokens.length) p.Width).1
def strP (p : T_api_Paragraph) (j : Nat) : Int := if j < p.Tokens.length then (p.Tokens[j - 1]?.getD ⟨[], 0⟩).Strength else -1
def cPr (p : T_api_Paragraph) (i j : Nat) : Int := (rowS p.Table (aimP p) (lnP p i j) (strP p j)).1
theorem cPr_le (p : T_api_Paragraph) (i j : Nat) : 0 ≤ cPr p i j ∧ cPr p i j ≤ 33000000 := rowS_le _ _ _ _
def shP (p : T_api_Paragraph) (a : Int) : T_rowbreak_sheet := ⟨p, (List.range (p.Tokens.length + 1)).map (smP p), a⟩
theorem shP_at (p : T_api_Paragraph) {k : Nat} (hk : k ≤ p.Tokens.length) : atI ((List.range (p.Tokens.length + 1)).map (smP p)) (k : Int) = some (smP p k) := by
  rw [atI_nat (by simp; omega)]
  simp
theorem length_eq {p : T_api_Paragraph} (h : Pok p) (a : Int) {i j : Nat} (hi : i ≤ p.Tokens.length) (hj : j ≤ p.Tokens.length) : g_rowbreak_sheet_length (shP p a) (i : Int) (j : Int) = some (lnP p i j) := by
  unfold g_rowbreak_sheet_length shP
  dsimp only
  rw [shP_at p hj, shP_at p hi]
  have h1 := smP_b h hi
  have h2 := smP_b h hj
  have := h.toks
  simp only [Option.bind_some]
  rw [wr64 (x := smP p j - smP p i) (by omega), wr64 (x := smP p j - smP p i + j) (by omega), wr64 (x := smP p j - smP p i + j - i) (by omega), wr64 (x := smP p j - smP p i + j - i - 1) (by omega)]
  rfl
theorem fits_eq {p : T_api_Paragraph} (h : Pok p) (a : Int) {i j : Nat} (hi : i ≤ p.Tokens.length) (hj : j ≤ p.Tokens.length) : g_rowbreak_sheet_fits (shP p a) (i : Int) (j : Int) = some (fitP p i j) := by
  unfold g_rowbreak_sheet_fits
  rw [length_eq h a hi hj]
  rfl
theorem cost_eq {p : T_api_Paragraph} (h : Pok p) {i j : Nat} (hi : i < j) (hj : j ≤ p.Tokens.length) : g_rowbreak_sheet_cost (shP p (aimP p)) (i : Int) (j : Int) = some (cPr p i j) := by
  unfold g_rowbreak_sheet_cost g_rowbreak_sheet_n
  rw [length_eq h _ (by omega) hj]
  have := h.toks
  simp only [Option.bind_some, row_prog]
  have e : (shP p (aimP p)).p_ = p := rfl
  have e2 : (shP p (aimP p)).aim_ = aimP p := rfl
  rw [e, e2]
  unfold cPr strP
  by_cases h1 : j < p.Tokens.length
  · rw [if_pos (by simpa using h1), if_pos h1, wr64 (by omega), show ((j : Int) - 1) = ((j - 1 : Nat) : Int) by omega, atI_nat (show j - 1 < p.Tokens.length by omega)]
    simp [show j - 1 < p.Tokens.length by omega]
  · rw [if_neg (by simpa using h1), if_neg h1]
theorem open_eq {p : T_api_Paragraph} (h : Pok p) : g_rowbreak_open p = some (shP p (aimP p)) := by
  unfold g_rowbreak_open
  have hn := h.toks
  have key : iter (g_rowbreak_open_s1 p) (0, [0]) = some ((List.range (p.Tokens.length + 1)).map (smP p)) := by
    refine iter_of (fun x e => ∃ i : Nat, x.1 = (i : Int) ∧ i ≤ p.Tokens.length ∧ x.2 = (List.range (i + 1)).map (smP p) ∧ e = (List.range (p.Tokens.length + 1)).map (smP p)) (fun x => p.Tokens.length - x.1.toNat) ?_ (x := (0, [0])) ⟨0, rfl, by omega, rfl, rfl⟩ (by show p.Tokens.length - 0 < _; omega)
    rintro ⟨x, m⟩ e ⟨i, hx, hi, hm, rfl⟩
    dsimp only at hx hm ⊢
    subst hx hm
    unfold g_rowbreak_open_s1
    dsimp only
    by_cases hlt : i < p.Tokens.length
    · left
      rw [if_pos (by simpa using hlt), atI_nat hlt, atI_nat (show i < ((List.range (i + 1)).map (smP p)).length by simp)]
      simp only [Option.bind_some]
      rw [len_prog _ (h.texts _ (List.getElem_mem hlt))]
      have b1 := smP_b h (k := i) (by omega)
      have b2 := tlen_le h hlt
      simp only [Option.bind_some, List.length_map, List.length_range, List.getElem_map, List.getElem_range]
      rw [if_pos (by omega), wr64 (x := (i : Int) + 1) (by omega), ← tlen_at p hlt, wr64 (x := smP p i + tlen p i) (by omega)]
      refine ⟨_, rfl, ⟨i + 1, rfl, by omega, ?_, by first | rfl | trivial⟩, by dsimp only; omega⟩
      dsimp only
      rw [show List.range (i + 1 + 1) = List.range (i + 1) ++ [i + 1] from List.range_succ, List.map_append]; rfl
    · right
      obtain rfl : i = p.Tokens.length := by omega
      rw [if_neg (by simp)]
  rw [key]
  simp only [Option.bind_some, g_rowbreak_sheet_n]
  have e : (T_rowbreak_sheet.mk p ((List.range (p.Tokens.length + 1)).map (smP p)) 0) = shP p 0 := rfl
  rw [e]
  have := length_eq h 0 (i := 0) (j := p.Tokens.length) (by omega) (by omega)
  simp only [Int.natCast_zero] at this
  rw [this]
  simp only [Option.bind_some, aim_prog]
  rfl
theorem refLen_eq {p : T_api_Paragraph} (h : Pok p) {i j : Nat} (hi : i < j) (hj : j ≤ p.Tokens.length) : g_ref34_Len p.Tokens (i : Int) (j : Int) = some (lnP p i j) := by
  unfold g_ref34_Len
  have hn := h.toks
  rw [show (if (decide ((i : Int) < 0)) then (some true) else (if (decide ((j : Int) < (i : Int))) then (some true) else (some (decide ((p.Tokens.length : Int) < (j : Int))))) : Option Bool) = some false by
    rw [if_neg (by simp), if_neg (by simp; omega)]; simp; omega]
  simp only [Option.bind_some, Bool.false_eq_true, if_false]
  have key : iter (g_ref34_Len_s1 p.Tokens (i : Int) (j : Int)) (0, (i : Int)) = some (lnP p i j) := by
    refine iter_of (fun x e => ∃ k : Nat, x.2 = (k : Int) ∧ i ≤ k ∧ k ≤ j ∧ x.1 = (if k = i then 0 else lnP p i k) ∧ e = lnP p i j) (fun x => j - x.2.toNat) ?_ (x := (0, (i : Int))) ⟨i, rfl, by omega, by omega, by simp, rfl⟩ (by show j - _ < _; omega)
    rintro ⟨a, x⟩ e ⟨k, hx, hik, hkj, ha, rfl⟩
    dsimp only at hx ha ⊢
    subst hx ha
    unfold g_ref34_Len_s1
    dsimp only
    by_cases hlt : k < j
    · left
      have hk : k < p.Tokens.length := by omega
      have b0 := smP_b h (k := i) (by omega)
      have b1 := smP_b h (k := k) (by omega)
      have b2 := tlen_le h hk
      rw [if_pos (by simpa using hlt), atI_nat hk, wr64 (x := (k : Int) + 1) (by omega)]
      simp only [Option.bind_some]
      rw [len_ref _ (h.texts _ (List.getElem_mem hk)), ← tlen_at p hk]
      simp only [Option.bind_some]
      by_cases e : k = i
      · subst e
        rw [if_neg (by simp), if_pos rfl, wr64 (by omega)]
        refine ⟨_, rfl, ⟨k + 1, rfl, by omega, by omega, ?_, by first | rfl | trivial⟩, by dsimp only; omega⟩
        dsimp only
        rw [if_neg (by omega)]
        unfold lnP
        rw [show smP p (k + 1) = smP p k + tlen p k from rfl]
        omega
      · rw [if_pos (by simp; omega), if_neg e, wr64 (x := lnP p i k + 1) (by unfold lnP; omega), wr64 (x := lnP p i k + 1 + tlen p k) (by unfold lnP; omega)]
        refine ⟨_, rfl, ⟨k + 1, rfl, by omega, by omega, ?_, by first | rfl | trivial⟩, by dsimp only; omega⟩
        dsimp only
        rw [if_neg (by omega)]
        unfold lnP
        rw [show smP p (k + 1) = smP p k + tlen p k from rfl]
        omega
    · right
      obtain rfl : k = j := by omega
      rw [if_neg (by simp), if_neg (by omega)]
  rw [key]; rfl
theorem refFits_eq {p : T_api_Paragraph} (h : Pok p) {i j : Nat} (hi : i < j) (hj : j ≤ p.Tokens.length) : g_ref36_Fits p (i : Int) (j : Int) = some (fitP p i j) := by
  unfold g_ref36_Fits
  rw [refLen_eq h hi hj]; rfl
theorem refRow_eq {p : T_api_Paragraph} (h : Pok p) {i j : Nat} (hi : i < j) (hj : j ≤ p.Tokens.length) : g_ref36_row p (i : Int) (j : Int) = some (cPr p i j) := by
  unfold g_ref36_row
  have := h.toks
  have h0 := refLen_eq h (i := 0) (j := p.Tokens.length) (by omega) (by omega)
  simp only [Int.natCast_zero] at h0
  rw [h0, refLen_eq h hi hj]
  simp only [Option.bind_some, aim_ref, row_ref]
  unfold cPr strP
  by_cases h1 : j < p.Tokens.length
  · rw [if_pos (by simpa using h1), if_pos h1, wr64 (by omega), show ((j : Int) - 1) = ((j - 1 : Nat) : Int) by omega, atI_nat (show j - 1 < p.Tokens.length by omega)]
    simp [show j - 1 < p.Tokens.length by omega, aimP]
  · rw [if_neg (by simpa using h1), if_neg h1]
    rfl
end Go.Proofs.YtalfcmgcjdkolaaGreatDoor
namespace Go.Proofs.YtalfcmgcjdkolaaGreatDoor
set_option maxRecDepth 100000
theorem pth_bd {n : Nat} {fit : Nat → Nat → Bool} {c : Nat → Nat → Int} {K : Int} (hc : ∀ i j, 0 ≤ c i j ∧ c i j ≤ K) : ∀ {r i : Nat} {x : Int}, Pth n fit c r i x → 0 ≤ x ∧ x ≤ (r : Int) * K := by
  intro r i x h
  induction h with
  | nil => simp
  | @cons r i j x _ _ _ _ ih =>
    have := hc i j
    have e : ((r + 1 : Nat) : Int) * K = (r : Int) * K + K := by rw [Int.natCast_add, Int.add_mul]; omega
    omega
abbrev PP (p : T_api_Paragraph) := Pth p.Tokens.length (fitP p) (cPr p)
abbrev PA (p : T_api_Paragraph) := AtM p.Tokens.length (fitP p) (cPr p)
theorem pp_bd {p : T_api_Paragraph} {r i : Nat} {x : Int} (h : PP p r i x) : 0 ≤ x ∧ x ≤ (r : Int) * 33000000 := pth_bd (cPr_le p) h
theorem lst_bd {p : T_api_Paragraph} {r i : Nat} {v : Int} (hr : r ≤ 8) (h : Lst (PP p r i) v) : -1 ≤ v ∧ v ≤ 264000000 := by
  by_cases hv : v = -1
  · omega
  · have h1 := h.mem hv
    have h2 := pp_bd h1.2.1
    omega
theorem lstA_bd {p : T_api_Paragraph} {r i : Nat} {v : Int} (hr : r ≤ 8) (h : Lst (PA p r i) v) : -1 ≤ v ∧ v ≤ 264000000 := by
  by_cases hv : v = -1
  · omega
  · obtain ⟨h1, ⟨s, hs, h2⟩, _⟩ := h.mem hv
    have h2 := pp_bd h2
    omega
def RowOK (p : T_api_Paragraph) (r : Nat) (row : List Int) : Prop := row.length = p.Tokens.length + 1 ∧ ∀ i, i ≤ p.Tokens.length → ∃ v, row[i]? = some v ∧ Lst (PP p r i) v
theorem getI {α : Type} {l : List α} {i : Nat} {v : α} (h : l[i]? = some v) : atI l (i : Int) = some v := by
  obtain ⟨h1, h2⟩ := List.getElem?_eq_some_iff.1 h
  rw [atI_nat h1, h2]
theorem ex_inner {p : T_api_Paragraph} (hv : Pv p) {r i : Nat} (hr : 1 ≤ r) (hr4 : r ≤ 8) (hi : i ≤ p.Tokens.length) {m : List (List Int)} {prev row z : List Int} (hm : m[r - 1]? = some prev) (hp : RowOK p (r - 1) prev) (hrow : row.length = p.Tokens.length + 1) :
    ∃ e, iter (g_rowbreak_sheet_exact_s3 (shP p (aimP p)) (p.Tokens.length : Int) ((r : Int), m) ((i : Int), z)) ((i : Int) + 1, row.set i (-1)) = some e ∧ ∃ v, e = row.set i v ∧ Lst (PP p r i) v := by
  have hn := hv.ok.toks
  refine iter_post (fun x => ∃ (J : Nat) (v : Int), x.1 = (J : Int) ∧ i < J ∧ J ≤ p.Tokens.length + 1 ∧ x.2 = row.set i v ∧ Lst (Cand (fitP p) (cPr p) (PP p (r - 1)) i J) v ∧ -1 ≤ v ∧ v ≤ 264000000) (fun x => p.Tokens.length + 1 - x.1.toNat) (fun e => ∃ v, e = row.set i v ∧ Lst (PP p r i) v) ⟨i + 1, -1, rfl, by omega, by omega, rfl, cand_start _ _, by omega, by omega⟩ (by show p.Tokens.length + 1 - _ < _; omega) ?_
  rintro ⟨x, rw'⟩ ⟨J, v, hx, hiJ, hJ, hrw, hL, hb1, hb2⟩
  dsimp only at hx hrw ⊢
  subst hx hrw
  unfold g_rowbreak_sheet_exact_s3
  dsimp only
  have hfin : (J ≤ p.Tokens.length → fitP p i J = false) → ∃ e, some (Nx.out (row.set i v) : Nx (Int × List Int) (List Int)) = some (.out e) ∧ ∃ v, e = row.set i v ∧ Lst (PP p r i) v := fun hf => by
    refine ⟨_, rfl, v, rfl, ?_⟩
    have := cand_end (n := p.Tokens.length) hJ (fun hle k hk1 hk2 => fit_mono hv hiJ hk1 hk2 (hf hle)) hL
    obtain ⟨r', rfl⟩ : ∃ r', r = r' + 1 := ⟨r - 1, by omega⟩
    exact this.congr fun x => pth_succ.symm
  by_cases hle : J ≤ p.Tokens.length
  · rw [if_pos (show decide ((J : Int) ≤ (p.Tokens.length : Int)) = true by simpa using hle), fits_eq hv.ok _ hi hle]
    simp only [Option.bind_some]
    cases hf : fitP p i J
    · right
      exact hfin fun _ => hf
    · left
      simp only [if_true]
      rw [wr64 (x := (r : Int) - 1) (by omega), show ((r : Int) - 1) = ((r - 1 : Nat) : Int) by omega, getI hm]
      simp only [Option.bind_some]
      rw [if_pos (by omega)]
      obtain ⟨w, hw, hLw⟩ := hp.2 J hle
      have hwb := lst_bd (by omega) hLw
      rw [getI hw, wr64 (x := (J : Int) + 1) (by omega)]
      simp only [Option.bind_some]
      have hstep := cand_step hiJ hf (cPr_le p i J).1 hL hLw
      by_cases h1 : w = -1
      · rw [if_pos (by simpa using h1)]
        rw [if_pos h1] at hstep
        exact ⟨_, rfl, ⟨J + 1, v, rfl, by omega, by omega, rfl, hstep, hb1, hb2⟩, by dsimp only; omega⟩
      · rw [if_neg (by simpa using h1), cost_eq hv.ok hiJ hle]
        rw [if_neg h1] at hstep
        simp only [Option.bind_some]
        have hat : (row.set i v)[i]? = some v := by rw [List.getElem?_set, if_pos rfl, if_pos (by omega)]
        have hc := cPr_le p i J
        have hps := hLw.mem h1
        have hpb := pp_bd hps.2.1
        rw [getI hat, wr64 (x := cPr p i J + w) (by omega)]
        simp only [Option.bind_some]
        have hcw : cPr p i J + w ≤ 264000000 := by
          have : ((r - 1 : Nat) : Int) ≤ 7 := by omega
          omega
        by_cases h2 : v = -1 ∨ cPr p i J + w < v
        · rw [if_pos h2] at hstep
          have hcond : (if (v == -1) = true then some true else some (decide (cPr p i J + w < v)) : Option Bool) = some true := by
            rcases h2 with h2 | h2
            · simp [h2]
            · simp [h2]
          rw [hcond]
          simp only [Option.bind_some, if_true]
          rw [setI_nat _ (by rw [List.length_set]; omega), List.set_set]
          exact ⟨_, rfl, ⟨J + 1, cPr p i J + w, rfl, by omega, by omega, rfl, hstep, by omega, hcw⟩, by dsimp only; omega⟩
        · rw [if_neg h2] at hstep
          have hcond : (if (v == -1) = true then some true else some (decide (cPr p i J + w < v)) : Option Bool) = some false := by
            have a1 : ¬ v = -1 := fun e => h2 (.inl e)
            have a2 : ¬ cPr p i J + w < v := fun e => h2 (.inr e)
            simp [a1, a2]
          rw [hcond]
          simp only [Option.bind_some, Bool.false_eq_true, if_false]
          exact ⟨_, rfl, ⟨J + 1, v, rfl, by omega, by omega, rfl, hstep, hb1, hb2⟩, by dsimp only; omega⟩
  · right
    rw [if_neg (by simpa using hle)]
    simp only [Option.bind_some, Bool.false_eq_true, if_false]
    exact hfin fun h => absurd h hle
theorem ex_row {p : T_api_Paragraph} (hv : Pv p) {r : Nat} (hr : 1 ≤ r) (hr4 : r ≤ 8) {m : List (List Int)} {prev m0 : List Int} (hm : m[r - 1]? = some prev) (hp : RowOK p (r - 1) prev) (h0 : m0.length = p.Tokens.length + 1) :
    ∃ e, iter (g_rowbreak_sheet_exact_s2 (shP p (aimP p)) (p.Tokens.length : Int) ((r : Int), m) m0) (0, m0) = some e ∧ RowOK p r e := by
  have hn := hv.ok.toks
  refine iter_post (fun x => ∃ i : Nat, x.1 = (i : Int) ∧ i ≤ p.Tokens.length + 1 ∧ x.2.length = p.Tokens.length + 1 ∧ ∀ k, k < i → ∃ v, x.2[k]? = some v ∧ Lst (PP p r k) v) (fun x => p.Tokens.length + 1 - x.1.toNat) (RowOK p r) (x := (0, m0)) ⟨0, rfl, by omega, h0, fun k hk => by omega⟩ (by show p.Tokens.length + 1 - _ < _; omega) ?_
  rintro ⟨x, row⟩ ⟨i, hx, hi, hl, hk⟩
  dsimp only at hx hl hk ⊢
  subst hx
  unfold g_rowbreak_sheet_exact_s2
  dsimp only
  rw [h0]
  by_cases hlt : i ≤ p.Tokens.length
  · left
    rw [if_pos (by simp; omega), atI_nat (by omega), setI_nat _ (by omega)]
    simp only [Option.bind_some]
    rw [if_neg (by simp; omega), wr64 (x := (i : Int) + 1) (by omega)]
    obtain ⟨e, he, v, rfl, hL⟩ := ex_inner hv hr hr4 hlt (z := row) hm hp hl
    rw [he]
    refine ⟨_, rfl, ⟨i + 1, rfl, by omega, by rw [List.length_set]; exact hl, fun k hk2 => ?_⟩, by dsimp only; omega⟩
    by_cases e : k = i
    · subst e
      exact ⟨v, by rw [List.getElem?_set, if_pos rfl, if_pos (by omega)], hL⟩
    · obtain ⟨w, hw, hLw⟩ := hk k (by omega)
      exact ⟨w, by rw [List.getElem?_set, if_neg (by omega)]; exact hw, hLw⟩
  · right
    rw [if_neg (by simp; omega)]
    exact ⟨_, rfl, hl, fun k hk2 => hk k (by omega)⟩
theorem ex_row0 {p : T_api_Paragraph} (hv : Pv p) {m : List (List Int)} {m0 : List Int} (h0 : m0.length = p.Tokens.length + 1) :
    ∃ e, iter (g_rowbreak_sheet_exact_s2 (shP p (aimP p)) (p.Tokens.length : Int) (0, m) m0) (0, m0) = some e ∧ e.length = p.Tokens.length + 1 ∧ ∀ k, k ≤ p.Tokens.length → e[k]? = some (-1) := by
  have hn := hv.ok.toks
  refine iter_post (fun x => ∃ i : Nat, x.1 = (i : Int) ∧ i ≤ p.Tokens.length + 1 ∧ x.2.length = p.Tokens.length + 1 ∧ ∀ k, k < i → x.2[k]? = some (-1)) (fun x => p.Tokens.length + 1 - x.1.toNat) (fun (e : List Int) => e.length = p.Tokens.length + 1 ∧ ∀ k, k ≤ p.Tokens.length → e[k]? = some (-1)) (x := (0, m0)) ⟨0, rfl, by omega, h0, fun k hk => by omega⟩ (by show p.Tokens.length + 1 - _ < _; omega) ?_
  rintro ⟨x, row⟩ ⟨i, hx, hi, hl, hk⟩
  dsimp only at hx hl hk ⊢
  subst hx
  unfold g_rowbreak_sheet_exact_s2
  dsimp only
  rw [h0]
  by_cases hlt : i ≤ p.Tokens.length
  · left
    rw [if_pos (by simp; omega), atI_nat (by omega), setI_nat _ (by omega)]
    simp only [Option.bind_some]
    rw [if_pos (by rfl), wr64 (x := (i : Int) + 1) (by omega)]
    refine ⟨_, rfl, ⟨i + 1, rfl, by omega, by rw [List.length_set]; exact hl, fun k hk2 => ?_⟩, by dsimp only; omega⟩
    by_cases e : k = i
    · subst e
      rw [List.getElem?_set, if_pos rfl, if_pos (by omega)]
    · rw [List.getElem?_set, if_neg (by omega)]
      exact hk k (by omega)
  · right
    rw [if_neg (by simp; omega)]
    exact ⟨_, rfl, hl, fun k hk2 => hk k (by omega)⟩
def TabOK (p : T_api_Paragraph) (R : Nat) (f : List (List Int)) : Prop := f.length = R + 1 ∧ ∀ r, r ≤ R → ∃ row, f[r]? = some row ∧ RowOK p r row
theorem exact_key {p : T_api_Paragraph} (hv : Pv p) {R : Nat} (hrw : R ≤ 4) : ∃ f, iter (g_rowbreak_sheet_exact_s1 (shP p (aimP p)) (p.Tokens.length : Int) (List.replicate (R + 1) ([] : List Int))) (0, List.replicate (R + 1) ([] : List Int)) = some f ∧ TabOK p R f := by
  have hn := hv.ok.toks
  refine iter_post (fun x => ∃ r : Nat, x.1 = (r : Int) ∧ r ≤ R + 1 ∧ x.2.length = R + 1 ∧ ∀ k, k < r → ∃ row, x.2[k]? = some row ∧ RowOK p k row) (fun x => R + 1 - x.1.toNat) (TabOK p R) (x := (0, _)) ⟨0, rfl, by omega, by simp, fun k hk => by omega⟩ (by show R + 1 - _ < _; omega) ?_
  rintro ⟨x, m⟩ ⟨r, hx, hr, hl, hk⟩
  dsimp only at hx hl hk ⊢
  subst hx
  unfold g_rowbreak_sheet_exact_s1
  dsimp only
  by_cases hlt : r ≤ R
  · left
    rw [if_pos (by simp; omega), wr64 (x := (p.Tokens.length : Int) + 1) (by omega), show ((p.Tokens.length : Int) + 1) = ((p.Tokens.length + 1 : Nat) : Int) by omega, mkI_nat 8 (p.Tokens.length + 1) _ (by omega) (by omega)]
    simp only [Option.bind_some]
    rw [atI_nat (show r < m.length by omega)]
    simp only [Option.bind_some]
    have hset : ∀ row, RowOK p r row → (∃ r' : Nat, ((r : Int) + 1) = (r' : Int) ∧ r' ≤ R + 1 ∧ (m.set (r : Int).toNat row).length = R + 1 ∧ ∀ k, k < r' → ∃ row', (m.set (r : Int).toNat row)[k]? = some row' ∧ RowOK p k row') := fun row hrow => by
      refine ⟨r + 1, by omega, by omega, by rw [List.length_set]; exact hl, fun k hk2 => ?_⟩
      rw [Int.toNat_natCast]
      by_cases e : k = r
      · subst e
        exact ⟨row, by rw [List.getElem?_set, if_pos rfl, if_pos (by omega)], hrow⟩
      · obtain ⟨w, hw, hLw⟩ := hk k (by omega)
        exact ⟨w, by rw [List.getElem?_set, if_neg (by omega)]; exact hw, hLw⟩
    have hzl : (List.replicate (p.Tokens.length + 1) (0 : Int)).length = p.Tokens.length + 1 := by simp
    rw [wr64 (x := (r : Int) + 1) (by omega)]
    by_cases hr0 : r = 0
    · subst hr0
      obtain ⟨e, he, hel, hall⟩ := ex_row0 hv (m := m) hzl
      simp only [Int.natCast_zero] at hset ⊢
      rw [he]
      simp only [Option.bind_some, beq_self_eq_true, if_true]
      have a0 := atI_nat (l := m) (n := 0) (by omega)
      simp only [Int.natCast_zero] at a0
      rw [a0]
      simp only [Option.bind_some]
      rw [atI_nat (show p.Tokens.length < e.length by omega), setI_nat _ (by omega)]
      simp only [Option.bind_some]
      refine ⟨_, rfl, hset _ ⟨by rw [List.length_set]; exact hel, fun i hi => ?_⟩, by dsimp only; omega⟩
      by_cases e2 : i = p.Tokens.length
      · subst e2
        exact ⟨0, by rw [List.getElem?_set, if_pos rfl, if_pos (by omega)], .inr ⟨by omega, .nil, fun x hx => by rw [(pth_zero.1 hx).2]; omega⟩⟩
      · exact ⟨-1, by rw [List.getElem?_set, if_neg (by omega)]; exact hall i hi, .inl ⟨rfl, fun x hx => e2 (pth_zero.1 hx).1⟩⟩
    · obtain ⟨prev, hpv, hpr⟩ := hk (r - 1) (by omega)
      obtain ⟨e, he, hel⟩ := ex_row hv (r := r) (by omega) (by omega) hpv hpr hzl
      rw [he]
      simp only [Option.bind_some]
      rw [if_neg (by simp; omega)]
      exact ⟨_, rfl, hset _ hel, by dsimp only; omega⟩
  · right
    rw [if_neg (by simp; omega)]
    exact ⟨_, rfl, hl, fun k hk2 => hk k (by omega)⟩
theorem exact_eq {p : T_api_Paragraph} (hv : Pv p) : ∃ f, g_rowbreak_sheet_exact (shP p (aimP p)) = some f ∧ TabOK p p.Rows.toNat f := by
  have hn := hv.ok.toks
  have hrw := hv.rows
  obtain ⟨R, hR⟩ : ∃ R : Nat, p.Rows = (R : Int) := ⟨p.Rows.toNat, by omega⟩
  obtain ⟨f, h1, h2⟩ := exact_key hv (R := R) (by omega)
  refine ⟨f, ?_, by rw [hR]; exact h2⟩
  have e1 : (shP p (aimP p)).p_ = p := rfl
  have e2 : IntKind.i64.wrap (p.Rows + 1) = ((R + 1 : Nat) : Int) := by rw [wr64 (by omega)]; omega
  simp only [g_rowbreak_sheet_exact, g_rowbreak_sheet_n, e1, e2, Option.bind_some, mkI_nat 24 (R + 1) ([] : List Int) (by omega) (by omega), h1]
end Go.Proofs.YtalfcmgcjdkolaaGreatDoor
namespace Go.Proofs.YtalfcmgcjdkolaaGreatDoor
set_option maxRecDepth 100000
theorem idx_inj {n k i k' i' : Nat} (hi : i ≤ n) (hi' : i' ≤ n) (h : k * (n + 1) + i = k' * (n + 1) + i') : k = k' ∧ i = i' := by
  have e : k = k' := by
    rcases Nat.lt_trichotomy k k' with h1 | h1 | h1
    · have := Nat.mul_le_mul_right (n + 1) (show k + 1 ≤ k' from h1)
      rw [Nat.add_mul] at this; omega
    · exact h1
    · have := Nat.mul_le_mul_right (n + 1) (show k' + 1 ≤ k from h1)
      rw [Nat.add_mul] at this; omega
  subst e
  exact ⟨rfl, by omega⟩
theorem idx_lt {n k i R : Nat} (hi : i ≤ n) (hk : k ≤ R) : k * (n + 1) + i < (R + 1) * (n + 1) := by
  have := Nat.mul_le_mul_right (n + 1) (show k + 1 ≤ R + 1 by omega)
  rw [Nat.add_mul] at this; omega
theorem idx_bd {n k i : Nat} (hn : n ≤ 8) (hk : k ≤ 5) (hi : i ≤ n) : k * (n + 1) + i ≤ 100 := by
  have := Nat.mul_le_mul hk (show n + 1 ≤ 9 by omega)
  omega
def PotAt (p : T_api_Paragraph) (R : Nat) (l : List Int) (k i : Nat) : Prop := ∃ v, l[k * (p.Tokens.length + 1) + i]? = some v ∧ Lst (PA p (R - k) i) v
def PotOK (p : T_api_Paragraph) (R : Nat) (l : List Int) : Prop := l.length = (R + 1) * (p.Tokens.length + 1) ∧ ∀ k i, k ≤ R → i ≤ p.Tokens.length → PotAt p R l k i
theorem pot_uniq {p : T_api_Paragraph} {R : Nat} {l l' : List Int} (h : PotOK p R l) (h' : PotOK p R l') : l = l' := by
  refine List.ext_getElem? fun m => ?_
  by_cases hm : m < (R + 1) * (p.Tokens.length + 1)
  · have e : m / (p.Tokens.length + 1) * (p.Tokens.length + 1) + m % (p.Tokens.length + 1) = m := by
      have := Nat.div_add_mod m (p.Tokens.length + 1)
      rw [Nat.mul_comm] at this; exact this
    have h1 : m / (p.Tokens.length + 1) ≤ R := by
      have : m / (p.Tokens.length + 1) < R + 1 := Nat.div_lt_of_lt_mul (by rw [Nat.mul_comm]; exact hm)
      omega
    have h2 : m % (p.Tokens.length + 1) ≤ p.Tokens.length := by
      have := Nat.mod_lt m (show 0 < p.Tokens.length + 1 by omega)
      omega
    obtain ⟨v, a1, a2⟩ := h.2 _ _ h1 h2
    obtain ⟨w, b1, b2⟩ := h'.2 _ _ h1 h2
    rw [e] at a1 b1
    rw [a1, b1, a2.uniq b2]
  · rw [List.getElem?_eq_none (by rw [h.1]; omega), List.getElem?_eq_none (by rw [h'.1]; omega)]
theorem idx_w {n k i : Nat} (hn : n ≤ 8) (hk : k ≤ 5) (hi : i ≤ n) : IntKind.i64.wrap ((IntKind.i64.wrap ((k : Int) * (IntKind.i64.wrap ((n : Int) + 1)))) + (i : Int)) = ((k * (n + 1) + i : Nat) : Int) := by
  have hb := idx_bd hn hk hi
  have e : (k : Int) * ((n : Int) + 1) = ((k * (n + 1) : Nat) : Int) := by
    rw [Int.natCast_mul]; rfl
  rw [wr64 (x := (n : Int) + 1) (by omega), e]
  have key : ∀ g : Nat, g + i ≤ 100 → IntKind.i64.wrap (IntKind.i64.wrap (g : Int) + (i : Int)) = ((g + i : Nat) : Int) := fun g hg => by
    rw [wr64 (x := (g : Int)) (by omega), wr64 (by omega)]; omega
  exact key _ hb
theorem pot_inner {p : T_api_Paragraph} (hv : Pv p) {R k i : Nat} (hR : p.Rows = (R : Int)) (hk : k ≤ R) (hi : i < p.Tokens.length) {l z : List Int} (hl : ∀ j, k < R → j ≤ p.Tokens.length → PotAt p R l (k + 1) j) :
    ∃ e, iter (g_ref36_potentials_s3 p ((k : Int), z) ((i : Int), l)) (-1, (i : Int) + 1) = some e ∧ Lst (PA p (R - k) i) e := by
  have hn := hv.ok.toks
  have hrw := hv.rows
  by_cases hkR : k < R
  rotate_left
  · obtain rfl : k = R := by omega
    have h0 : Lst (PA p (k - k) i) (-1) := .inl ⟨rfl, fun x hx => by
      rw [Nat.sub_self] at hx
      exact atm_zero (by omega) hx⟩
    refine iter_post (fun x => x.1 = -1) (fun x => 0) (fun e => Lst (PA p (k - k) i) e) rfl (by decide) ?_
    rintro ⟨b, x⟩ hb
    dsimp only at hb
    subst hb
    right
    unfold g_ref36_potentials_s3
    dsimp only
    rw [hR]
    rw [show (if decide (x ≤ (p.Tokens.length : Int)) = true then (if decide ((k : Int) < (k : Int)) = true then (g_ref36_Fits p (i : Int) x).bind fun r => some r else some false) else some false : Option Bool) = some false by simp]
    exact ⟨_, rfl, h0⟩
  obtain ⟨m, hm⟩ : ∃ m, R - k = m + 1 := ⟨R - k - 1, by omega⟩
  have hm2 : R - (k + 1) = m := by omega
  refine iter_post (fun x => ∃ J : Nat, x.2 = (J : Int) ∧ i < J ∧ J ≤ p.Tokens.length + 1 ∧ Lst (Cand (fitP p) (cPr p) (PA p m) i J) x.1 ∧ -1 ≤ x.1 ∧ x.1 ≤ 400000000) (fun x => p.Tokens.length + 1 - x.2.toNat) (fun e => Lst (PA p (R - k) i) e) (x := (-1, (i : Int) + 1)) ⟨i + 1, rfl, by omega, by omega, cand_start _ _, by omega, by omega⟩ (by show p.Tokens.length + 1 - _ < _; omega) ?_
  rintro ⟨b, x⟩ ⟨J, hx, hiJ, hJ, hL, hb1, hb2⟩
  dsimp only at hx hL hb1 hb2 ⊢
  subst hx
  unfold g_ref36_potentials_s3
  dsimp only
  have hfin : (J ≤ p.Tokens.length → fitP p i J = false) → Lst (PA p (R - k) i) b := fun hf => by
    have := cand_end (n := p.Tokens.length) hJ (fun hle k hk1 hk2 => fit_mono hv hiJ hk1 hk2 (hf hle)) hL
    rw [hm]
    exact this.congr fun x => (atm_succ (by omega)).symm
  by_cases hle : J ≤ p.Tokens.length
  · rw [if_pos (show decide ((J : Int) ≤ (p.Tokens.length : Int)) = true by simpa using hle), if_pos (show decide ((k : Int) < p.Rows) = true by rw [hR]; simpa using hkR), refFits_eq hv.ok hiJ hle]
    simp only [Option.bind_some]
    cases hf : fitP p i J
    · right
      exact ⟨_, rfl, hfin fun _ => hf⟩
    · left
      simp only [if_true]
      rw [wr64 (x := (k : Int) + 1) (by omega), show ((k : Int) + 1) = ((k + 1 : Nat) : Int) by omega, idx_w hn (by omega) hle]
      obtain ⟨w, hw, hLw⟩ := hl J hkR hle
      rw [hm2] at hLw
      have hwb := lstA_bd (by omega) hLw
      have hc := cPr_le p i J
      rw [getI hw, refRow_eq hv.ok hiJ hle, wr64 (x := (J : Int) + 1) (by omega)]
      simp only [Option.bind_some]
      have hstep := cand_step hiJ hf hc.1 hL hLw
      by_cases h1 : w = -1
      · rw [if_pos h1] at hstep
        rw [if_pos (show decide (w < 0) = true by simp; omega)]
        exact ⟨_, rfl, ⟨J + 1, rfl, by omega, by omega, hstep, hb1, hb2⟩, by dsimp only; omega⟩
      · rw [if_neg h1] at hstep
        rw [if_neg (show ¬ decide (w < 0) = true by simp; omega), wr64 (x := cPr p i J + w) (by omega)]
        by_cases h2 : b = -1 ∨ cPr p i J + w < b
        · rw [if_pos h2] at hstep
          have hcond : (if decide (b < 0) = true then some (cPr p i J + w) else if decide (cPr p i J + w < b) = true then some (cPr p i J + w) else some b : Option Int) = some (cPr p i J + w) := by
            rcases h2 with h2 | h2
            · simp [h2]
            · simp [h2]
          rw [hcond]
          exact ⟨_, rfl, ⟨J + 1, rfl, by omega, by omega, hstep, by omega, by omega⟩, by dsimp only; omega⟩
        · rw [if_neg h2] at hstep
          have hcond : (if decide (b < 0) = true then some (cPr p i J + w) else if decide (cPr p i J + w < b) = true then some (cPr p i J + w) else some b : Option Int) = some b := by
            rw [if_neg (by simp; omega), if_neg (by simp; omega)]
          rw [hcond]
          exact ⟨_, rfl, ⟨J + 1, rfl, by omega, by omega, hstep, hb1, hb2⟩, by dsimp only; omega⟩
  · right
    rw [if_neg (by simpa using hle)]
    simp only [Option.bind_some, Bool.false_eq_true, if_false]
    exact ⟨_, rfl, hfin fun h => absurd h hle⟩
structure PInv (p : T_api_Paragraph) (R m : Nat) (l : List Int) : Prop where
  len : l.length = (R + 1) * (p.Tokens.length + 1)
  col : ∀ k, k ≤ R → l[k * (p.Tokens.length + 1) + p.Tokens.length]? = some 0
  done : ∀ k i, m ≤ k → k ≤ R → i ≤ p.Tokens.length → PotAt p R l k i
theorem lst_n (p : T_api_Paragraph) (m : Nat) : Lst (PA p m p.Tokens.length) 0 := .inr ⟨by omega, atm_n.2 rfl, fun x hx => by rw [atm_n.1 hx]; omega⟩
theorem pot_row {p : T_api_Paragraph} (hv : Pv p) {R k : Nat} (hR : p.Rows = (R : Int)) (hk : k ≤ R) {l0 : List Int} (h0 : PInv p R (k + 1) l0) :
    ∃ e, iter (g_ref36_potentials_s2 p ((k : Int), l0)) ((p.Tokens.length : Int) - 1, l0) = some e ∧ PInv p R k e := by
  have hn := hv.ok.toks
  have hrw := hv.rows
  refine iter_post (fun x => ∃ m : Nat, x.1 = (m : Int) - 1 ∧ m ≤ p.Tokens.length ∧ PInv p R (k + 1) x.2 ∧ ∀ i, m ≤ i → i ≤ p.Tokens.length → PotAt p R x.2 k i) (fun x => (x.1 + 1).toNat) (PInv p R k) (x := ((p.Tokens.length : Int) - 1, l0)) ⟨p.Tokens.length, rfl, by omega, h0, fun i h1 h2 => ?_⟩ (by show ((p.Tokens.length : Int) - 1 + 1).toNat < _; omega) ?_
  · obtain rfl : i = p.Tokens.length := by omega
    exact ⟨0, h0.col k hk, lst_n p _⟩
  rintro ⟨x, l⟩ ⟨m, hx, hm, hI, hd⟩
  dsimp only at hx hI hd ⊢
  subst hx
  unfold g_ref36_potentials_s2
  dsimp only
  cases m with
  | zero =>
    right
    rw [if_neg (by simp)]
    refine ⟨_, rfl, hI.len, hI.col, fun k' i h1 h2 h3 => ?_⟩
    by_cases e : k' = k
    · subst e; exact hd i (by omega) h3
    · exact hI.done k' i (by omega) h2 h3
  | succ i =>
    left
    rw [show ((i + 1 : Nat) : Int) - 1 = (i : Int) by omega, if_pos (by simp), wr64 (x := (i : Int) + 1) (by omega), idx_w hn (by omega) (by omega), wr64 (x := (i : Int) - 1) (by omega)]
    obtain ⟨v, he, hL⟩ := pot_inner hv hR hk (i := i) (by omega) (l := l) (z := l0) (fun j h1 h2 => hI.done (k + 1) j (by omega) (by omega) h2)
    have hlt : k * (p.Tokens.length + 1) + i < l.length := by rw [hI.len]; exact idx_lt (by omega) hk
    rw [he]
    simp only [Option.bind_some]
    rw [atI_nat hlt, setI_nat _ hlt]
    have hne : ∀ k' i', i' ≤ p.Tokens.length → (k' ≠ k ∨ i' ≠ i) → (l.set (k * (p.Tokens.length + 1) + i) v)[k' * (p.Tokens.length + 1) + i']? = l[k' * (p.Tokens.length + 1) + i']? := fun k' i' h1 h2 => by
      rw [List.getElem?_set, if_neg]
      intro e
      have := idx_inj (by omega) h1 e
      omega
    have hsame : PotAt p R (l.set (k * (p.Tokens.length + 1) + i) v) k i := ⟨v, by rw [List.getElem?_set, if_pos rfl, if_pos hlt], hL⟩
    refine ⟨_, rfl, ⟨i, rfl, by omega, ⟨by rw [List.length_set]; exact hI.len, fun k' h => ?_, fun k' i' h1 h2 h3 => ?_⟩, fun i' h1 h2 => ?_⟩, by dsimp only; omega⟩
    · dsimp only
      rw [hne k' _ (by omega) (.inr (by omega))]
      exact hI.col k' h
    · obtain ⟨w, hw, hLw⟩ := hI.done k' i' h1 h2 h3
      exact ⟨w, by dsimp only; rw [hne k' i' h3 (.inl (by omega))]; exact hw, hLw⟩
    · by_cases e : i' = i
      · subst e; exact hsame
      · obtain ⟨w, hw, hLw⟩ := hd i' (by omega) h2
        exact ⟨w, by dsimp only; rw [hne k i' h2 (.inr e)]; exact hw, hLw⟩
theorem pot_key {p : T_api_Paragraph} (hv : Pv p) {R : Nat} (hR : p.Rows = (R : Int)) {l0 : List Int} (h0 : PInv p R (R + 1) l0) : ∃ e, iter (g_ref36_potentials_s1 p) ((R : Int), l0) = some e ∧ PInv p R 0 e := by
  have hn := hv.ok.toks
  have hrw := hv.rows
  refine iter_post (fun x => ∃ m : Nat, x.1 = (m : Int) - 1 ∧ m ≤ R + 1 ∧ PInv p R m x.2) (fun x => (x.1 + 1).toNat) (PInv p R 0) (x := ((R : Int), l0)) ⟨R + 1, by show (R : Int) = _; omega, by omega, h0⟩ (by show ((R : Int) + 1).toNat < _; omega) ?_
  rintro ⟨x, l⟩ ⟨m, hx, hm, hI⟩
  dsimp only at hx hI ⊢
  subst hx
  unfold g_ref36_potentials_s1
  dsimp only
  cases m with
  | zero =>
    right
    rw [if_neg (by simp)]
    exact ⟨_, rfl, hI⟩
  | succ k =>
    left
    rw [show ((k + 1 : Nat) : Int) - 1 = (k : Int) by omega, if_pos (by simp), wr64 (x := (p.Tokens.length : Int) - 1) (by omega), wr64 (x := (k : Int) - 1) (by omega)]
    obtain ⟨e, he, hI2⟩ := pot_row hv hR (k := k) (by omega) hI
    rw [he]
    exact ⟨_, rfl, ⟨k, rfl, by omega, hI2⟩, by dsimp only; omega⟩
theorem pot_eq {p : T_api_Paragraph} (hv : Pv p) : ∃ l, g_ref36_potentials p = some l ∧ PotOK p p.Rows.toNat l := by
  have hn := hv.ok.toks
  have hrw := hv.rows
  obtain ⟨R, hR⟩ : ∃ R : Nat, p.Rows = (R : Int) := ⟨p.Rows.toNat, by omega⟩
  have h0 : PInv p R (R + 1) (List.replicate ((R + 1) * (p.Tokens.length + 1)) (0 : Int)) := ⟨by simp, fun k hk => by
    rw [List.getElem?_replicate, if_pos (idx_lt (by omega) hk)], fun k i h1 h2 _ => by omega⟩
  obtain ⟨l, h1, h2⟩ := pot_key hv hR h0
  refine ⟨l, ?_, h2.len.trans (by rw [hR]; rfl), fun k i hk hi => ?_⟩
  · have hb := idx_bd hn (show R + 1 ≤ 5 by omega) (show 0 ≤ p.Tokens.length by omega)
    have e1 : (IntKind.i64.wrap ((IntKind.i64.wrap (p.Rows + 1)) * (IntKind.i64.wrap ((p.Tokens.length : Int) + 1)))) = (((R + 1) * (p.Tokens.length + 1) : Nat) : Int) := by
      rw [hR, wr64 (x := (R : Int) + 1) (by omega), wr64 (x := (p.Tokens.length : Int) + 1) (by omega)]
      have e : ((R : Int) + 1) * ((p.Tokens.length : Int) + 1) = (((R + 1) * (p.Tokens.length + 1) : Nat) : Int) := by
        rw [Int.natCast_mul]; rfl
      rw [e, wr64 (by omega)]
    rw [hR] at e1
    simp only [g_ref36_potentials, hR, e1, mkI_nat 8 ((R + 1) * (p.Tokens.length + 1)) (0 : Int) (by omega) (by omega), Option.bind_some, h1]
  · rw [hR, Int.toNat_natCast] at hk ⊢
    exact h2.done k i (by omega) hk hi
def parQ (p : T_api_Paragraph) (r : Int) : T_api_Paragraph := ⟨p.Tokens, p.Width, r, p.Table⟩
theorem smP_q (p : T_api_Paragraph) (r : Int) : ∀ k, smP (parQ p r) k = smP p k
  | 0 => rfl
  | k + 1 => by
    rw [show smP (parQ p r) (k + 1) = smP (parQ p r) k + tlen (parQ p r) k from rfl, smP_q p r k]; rfl
theorem lnP_q (p : T_api_Paragraph) (r : Int) (i j : Nat) : lnP (parQ p r) i j = lnP p i j := by unfold lnP; rw [smP_q, smP_q]
theorem fitP_q (p : T_api_Paragraph) (r : Int) : fitP (parQ p r) = fitP p := by
  funext i j; unfold fitP; rw [lnP_q]; rfl
theorem cPr_q (p : T_api_Paragraph) (r : Int) : cPr (parQ p r) = cPr p := by
  funext i j
  have : aimP (parQ p r) = aimP p := by unfold aimP; rw [lnP_q]; rfl
  unfold cPr; rw [lnP_q, this]; rfl
theorem PA_q (p : T_api_Paragraph) (r : Int) : PA (parQ p r) = PA p := by
  unfold PA; rw [fitP_q, cPr_q]; rfl
theorem Pv_q {p : T_api_Paragraph} (h : Pv p) {r : Int} (hr : 1 ≤ r ∧ r ≤ 4) : Pv (parQ p r) := ⟨⟨h.ok.toks, h.ok.texts⟩, h.ne, h.tok, h.width, hr, h.table⟩
theorem PotOK_q {p : T_api_Paragraph} {r : Int} {R : Nat} {l : List Int} (h : PotOK (parQ p r) R l) : PotOK p R l := by
  refine ⟨h.1, fun k i hk hi => ?_⟩
  obtain ⟨v, h1, h2⟩ := h.2 k i hk hi
  exact ⟨v, h1, by rw [PA_q] at h2; exact h2⟩
end Go.Proofs.YtalfcmgcjdkolaaGreatDoor
namespace Go.Proofs.YtalfcmgcjdkolaaGreatDoor
set_option maxRecDepth 100000
def fE (f : List (List Int)) (r i : Nat) : Int := ((f[r]?.getD [])[i]?).getD (-1)
theorem fE_ok {p : T_api_Paragraph} {R : Nat} {f : List (List Int)} (h : TabOK p R f) : ∀ r i, r ≤ R → i ≤ p.Tokens.length → Lst (Pth p.Tokens.length (fitP p) (cPr p) r i) (fE f r i) := fun r i hr hi => by
  obtain ⟨row, h1, h2⟩ := h.2 r hr
  obtain ⟨v, h3, h4⟩ := h2.2 i hi
  unfold fE
  rw [h1, Option.getD_some, h3, Option.getD_some]
  exact h4
theorem fE_at {p : T_api_Paragraph} {R : Nat} {f : List (List Int)} (h : TabOK p R f) {r i : Nat} (hr : r ≤ R) (hi : i ≤ p.Tokens.length) : ∃ row, atI f (r : Int) = some row ∧ atI row (i : Int) = some (fE f r i) := by
  obtain ⟨row, h1, h2⟩ := h.2 r hr
  obtain ⟨v, h3, h4⟩ := h2.2 i hi
  refine ⟨row, getI h1, ?_⟩
  unfold fE
  rw [h1, Option.getD_some, h3, Option.getD_some]
  exact getI h3
def fA (l : List Int) (n R m i : Nat) : Int := (l[(R - m) * (n + 1) + i]?).getD (-1)
theorem fA_ok {p : T_api_Paragraph} {R : Nat} {l : List Int} (h : PotOK p R l) : ∀ m i, m ≤ R → i ≤ p.Tokens.length → Lst (AtM p.Tokens.length (fitP p) (cPr p) m i) (fA l p.Tokens.length R m i) := fun m i hm hi => by
  obtain ⟨v, h1, h2⟩ := h.2 (R - m) i (by omega) hi
  unfold fA
  rw [h1, Option.getD_some]
  rw [show R - (R - m) = m by omega] at h2
  exact h2
theorem fA_at {p : T_api_Paragraph} {R : Nat} {l : List Int} (h : PotOK p R l) {m i : Nat} (hm : m ≤ R) (hi : i ≤ p.Tokens.length) : atI l (((R - m) * (p.Tokens.length + 1) + i : Nat) : Int) = some (fA l p.Tokens.length R m i) := by
  obtain ⟨v, h1, h2⟩ := h.2 (R - m) i (by omega) hi
  unfold fA
  rw [h1, Option.getD_some]
  exact getI h1
theorem least_row {p : T_api_Paragraph} (hv : Pv p) {R k i : Nat} (hk : k ≤ R) (hR : R ≤ 4) {f : List (List Int)} (hf : TabOK p R f) (hi : i ≤ p.Tokens.length) {z : List Int} :
    ∃ e, iter (g_rowbreak_Break_s3 ((i : Int), z) (f.take (R - k + 1))) (-1, 0) = some e ∧ Lst (PA p (R - k) i) e := by
  have hlen : (f.take (R - k + 1)).length = R - k + 1 := by rw [List.length_take, hf.1]; omega
  refine iter_post (fun x => ∃ t : Nat, x.2 = (t : Int) ∧ t ≤ R - k + 1 ∧ ((t = 0 ∧ x.1 = -1) ∨ ∃ t', t = t' + 1 ∧ Lst (PA p t' i) x.1)) (fun x => R - k + 1 - x.2.toNat) (fun e => Lst (PA p (R - k) i) e) (x := (-1, 0)) ⟨0, rfl, by omega, .inl ⟨rfl, rfl⟩⟩ (by show R - k + 1 - _ < _; omega) ?_
  rintro ⟨b, x⟩ ⟨t, hx, ht, hb⟩
  dsimp only at hx hb ⊢
  subst hx
  unfold g_rowbreak_Break_s3
  dsimp only
  rw [hlen]
  by_cases hlt : t < R - k + 1
  · left
    obtain ⟨row, h1, h2⟩ := fE_at hf (r := t) (i := i) (by omega) hi
    have hE := fE_ok hf t i (by omega) hi
    have hbd := lst_bd (by omega) hE
    have h1' : atI (f.take (R - k + 1)) (t : Int) = some row := by
      rw [atI_nat (by omega), List.getElem_take]
      rw [atI_nat (by rw [hf.1]; omega)] at h1
      exact h1
    rw [if_pos (by simp; omega), h1', wr64 (x := (t : Int) + 1) (by omega)]
    simp only [Option.bind_some]
    rw [h2]
    simp only [Option.bind_some]
    generalize fE f t i = v at *
    have hnew : Lst (PA p t i) (if v = -1 then b else if b = -1 ∨ v < b then v else b) := by
      rcases hb with ⟨rfl, rfl⟩ | ⟨t', rfl, hL⟩
      · have h0 := atm_0 hE
        by_cases e : v = -1
        · rw [if_pos e]; rw [e] at h0; exact h0
        · rw [if_neg e, if_pos (.inl rfl)]; exact h0
      · exact atm_join hL hE
    have hcond : (if (v != -1) = true then if (b == -1) = true then some true else some (decide (v < b)) else some false : Option Bool) = some (decide (v ≠ -1 ∧ (b = -1 ∨ v < b))) := by
      by_cases e1 : v = -1
      · simp [e1]
      · by_cases e2 : b = -1
        · simp [e1, e2]
        · simp [e1, e2]
    rw [hcond]
    simp only [Option.bind_some]
    by_cases e1 : v = -1
    · rw [if_pos e1] at hnew
      rw [if_neg (by simp [e1])]
      exact ⟨_, rfl, ⟨t + 1, rfl, by omega, .inr ⟨t, rfl, hnew⟩⟩, by dsimp only; omega⟩
    · rw [if_neg e1] at hnew
      by_cases e2 : b = -1 ∨ v < b
      · rw [if_pos e2] at hnew
        rw [if_pos (by simp [e1, e2])]
        exact ⟨_, rfl, ⟨t + 1, rfl, by omega, .inr ⟨t, rfl, hnew⟩⟩, by dsimp only; omega⟩
      · rw [if_neg e2] at hnew
        rw [if_neg (by simp [e1]; omega)]
        exact ⟨_, rfl, ⟨t + 1, rfl, by omega, .inr ⟨t, rfl, hnew⟩⟩, by dsimp only; omega⟩
  · right
    rw [if_neg (by simp; omega)]
    refine ⟨_, rfl, ?_⟩
    rcases hb with ⟨rfl, _⟩ | ⟨t', rfl, hL⟩
    · omega
    · rw [show R - k = t' by omega]; exact hL
def PotTo (p : T_api_Paragraph) (R k i : Nat) (l : List Int) : Prop := l.length = k * (p.Tokens.length + 1) + i ∧ ∀ k' i', k' ≤ R → i' ≤ p.Tokens.length → (k' < k ∨ k' = k ∧ i' < i) → PotAt p R l k' i'
theorem pots_row {p : T_api_Paragraph} (hv : Pv p) {R k : Nat} (hR : p.Rows = (R : Int)) (hk : k ≤ R) {f : List (List Int)} (hf : TabOK p R f) {y : List Int} (hy : y.length = p.Tokens.length + 1) {l0 : List Int} (h0 : PotTo p R k 0 l0) :
    ∃ e, iter (g_rowbreak_Break_s2 p f ((k : Int), l0) y) (0, l0) = some e ∧ PotTo p R (k + 1) 0 e := by
  have hn := hv.ok.toks
  have hrw := hv.rows
  refine iter_post (fun x => ∃ i : Nat, x.1 = (i : Int) ∧ i ≤ p.Tokens.length + 1 ∧ PotTo p R k i x.2) (fun x => p.Tokens.length + 1 - x.1.toNat) (PotTo p R (k + 1) 0) (x := (0, l0)) ⟨0, rfl, by omega, h0⟩ (by show p.Tokens.length + 1 - _ < _; omega) ?_
  rintro ⟨x, l⟩ ⟨i, hx, hi, hl⟩
  dsimp only at hx hl ⊢
  subst hx
  unfold g_rowbreak_Break_s2
  dsimp only
  rw [hy]
  by_cases hlt : i ≤ p.Tokens.length
  · left
    have hb := idx_bd hn (show k ≤ 5 by omega) hlt
    obtain ⟨v, he, hL⟩ := least_row hv hk (by omega) hf hlt (z := l)
    have hsub : subH f (IntKind.i64.wrap (IntKind.i64.wrap (p.Rows - (k : Int)) + 1)) = some (f.take (R - k + 1)) := by
      rw [hR, wr64 (x := (R : Int) - k) (by omega), wr64 (by omega)]
      unfold subH
      rw [if_pos (by have := hf.1; omega)]
      congr 2
      omega
    rw [if_pos (by simp; omega), hsub]
    simp only [Option.bind_some]
    rw [he]
    simp only [Option.bind_some]
    rw [if_pos (by rw [hl.1]; omega), wr64 (x := (i : Int) + 1) (by omega)]
    refine ⟨_, rfl, ⟨i + 1, rfl, by omega, by simp [hl.1]; omega, fun k' i' h1 h2 h3 => ?_⟩, by dsimp only; omega⟩
    by_cases e : k' = k ∧ i' = i
    · obtain ⟨rfl, rfl⟩ := e
      exact ⟨v, by dsimp only; rw [List.getElem?_append_right (by rw [hl.1]; omega), hl.1]; simp, hL⟩
    · obtain ⟨w, hw, hLw⟩ := hl.2 k' i' h1 h2 (by omega)
      refine ⟨w, ?_, hLw⟩
      dsimp only
      rw [List.getElem?_append_left (List.getElem?_eq_some_iff.1 hw).1]
      exact hw
  · right
    rw [if_neg (by simp; omega)]
    refine ⟨_, rfl, ?_, fun k' i' h1 h2 h3 => hl.2 k' i' h1 h2 (by omega)⟩
    rw [hl.1, Nat.add_mul]; omega
theorem pots_key {p : T_api_Paragraph} (hv : Pv p) {R : Nat} (hR : p.Rows = (R : Int)) {f : List (List Int)} (hf : TabOK p R f) : ∃ e, iter (g_rowbreak_Break_s1 p f) (0, []) = some e ∧ PotOK p R e := by
  have hn := hv.ok.toks
  have hrw := hv.rows
  have hfl := hf.1
  refine iter_post (fun x => ∃ k : Nat, x.1 = (k : Int) ∧ k ≤ R + 1 ∧ PotTo p R k 0 x.2) (fun x => R + 1 - x.1.toNat) (PotOK p R) (x := (0, [])) ⟨0, rfl, by omega, by simp, fun k' i' _ _ h => by omega⟩ (by show R + 1 - _ < _; omega) ?_
  rintro ⟨x, l⟩ ⟨k, hx, hk, hl⟩
  dsimp only at hx hl ⊢
  subst hx
  unfold g_rowbreak_Break_s1
  dsimp only
  rw [hfl]
  by_cases hlt : k ≤ R
  · left
    obtain ⟨row, h1, h2⟩ := hf.2 0 (by omega)
    have h1 := getI h1
    simp only [Int.natCast_zero] at h1
    obtain ⟨e, he, hl2⟩ := pots_row hv hR hlt hf h2.1 hl
    rw [if_pos (by simp; omega), h1, wr64 (x := (k : Int) + 1) (by omega)]
    simp only [Option.bind_some]
    rw [he]
    exact ⟨_, rfl, ⟨k + 1, rfl, by omega, hl2⟩, by dsimp only; omega⟩
  · right
    obtain rfl : k = R + 1 := by omega
    rw [if_neg (by simp)]
    exact ⟨_, rfl, by rw [hl.1]; omega, fun k' i' h1 h2 => hl.2 k' i' h1 h2 (by omega)⟩
theorem rows_key {p : T_api_Paragraph} (hv : Pv p) {R : Nat} (hR : p.Rows = (R : Int)) {f : List (List Int)} (hf : TabOK p R f) {y : Int} (hy : Lst (PA p R 0) y) (h1 : y ≠ -1) :
    ∃ r : Nat, iter (g_rowbreak_Break_s4 f y) 0 = some (r : Int) ∧ 1 ≤ r ∧ r ≤ R ∧ fE f r 0 = y ∧ Tight (fE f) r 0 := by
  have hn := hv.ok.toks
  have hrw := hv.rows
  have hne : 1 ≤ p.Tokens.length := List.length_pos_iff.2 hv.ne
  have hE := fE_ok hf
  obtain ⟨hy0, ⟨s, hs, hps⟩, hmin⟩ := hy.mem h1
  have hex : fE f s 0 = y := by
    have a := (hE s 0 hs (by omega)).has hps
    have b := (hE s 0 hs (by omega)).mem a.1
    have c := hmin _ ⟨s, hs, b.2.1⟩
    have := a.2.2; omega
  have key : ∃ e, iter (g_rowbreak_Break_s4 f y) 0 = some e ∧ ∃ r : Nat, e = (r : Int) ∧ r ≤ R ∧ fE f r 0 = y ∧ ∀ t, t < r → fE f t 0 ≠ y := by
    refine iter_post (fun x => ∃ r : Nat, x = (r : Int) ∧ r ≤ s ∧ ∀ t, t < r → fE f t 0 ≠ y) (fun x => R + 1 - x.toNat) (fun e => ∃ r : Nat, e = (r : Int) ∧ r ≤ R ∧ fE f r 0 = y ∧ ∀ t, t < r → fE f t 0 ≠ y) (x := 0) ⟨0, rfl, by omega, fun t ht => by omega⟩ (by show R + 1 - _ < _; omega) ?_
    rintro x ⟨r, rfl, hr, ht⟩
    unfold g_rowbreak_Break_s4
    obtain ⟨row, a1, a2⟩ := fE_at hf (r := r) (i := 0) (by omega) (by omega)
    simp only [Int.natCast_zero] at a2
    rw [a1]
    simp only [Option.bind_some]
    rw [a2]
    simp only [Option.bind_some]
    by_cases e : fE f r 0 = y
    · right
      rw [if_neg (by simpa using e)]
      exact ⟨_, rfl, r, rfl, by omega, e, ht⟩
    · left
      rw [if_pos (by simpa using e), wr64 (by omega)]
      have : r ≠ s := fun q => e (by rw [q]; exact hex)
      refine ⟨_, rfl, ⟨r + 1, rfl, by omega, fun t h => ?_⟩, by omega⟩
      by_cases q : t = r
      · rw [q]; exact e
      · exact ht t (by omega)
  obtain ⟨e, h2, r, rfl, h3, h4, h5⟩ := key
  refine ⟨r, h2, ?_, h3, h4, ?_⟩
  · rcases Nat.eq_zero_or_pos r with q | q
    · subst q
      have := ((hE 0 0 (by omega) (by omega)).mem (by rw [h4]; exact h1)).2.1
      have := (pth_zero.1 this).1
      omega
    · exact q
  · refine ⟨by rw [h4]; exact h1, fun t ht => ?_⟩
    by_cases q : fE f t 0 = -1
    · exact .inl q
    · right
      have a := (hE t 0 (by omega) (by omega)).mem q
      have b := hmin _ ⟨t, by omega, a.2.1⟩
      have := h5 t ht
      rw [h4]; omega
theorem refrows_key {p : T_api_Paragraph} (hv : Pv p) {R r : Nat} (hR : p.Rows = (R : Int)) {f : List (List Int)} (hf : TabOK p R f) (h1 : 1 ≤ r) (hr : r ≤ R) (ht : Tight (fE f) r 0) : iter (g_ref36_Break_s1 p (fE f r 0)) 1 = some (r : Int) := by
  have hn := hv.ok.toks
  have hrw := hv.rows
  have hE := fE_ok hf
  refine iter_of (fun x e => e = (r : Int) ∧ ∃ m : Nat, x = (m : Int) ∧ 1 ≤ m ∧ m ≤ r) (fun x => r + 1 - x.toNat) ?_ ⟨rfl, 1, rfl, by omega, h1⟩ (by show r + 1 - _ < _; omega)
  rintro x e ⟨rfl, m, rfl, hm1, hm2⟩
  unfold g_ref36_Break_s1
  obtain ⟨l, hl, hok⟩ := pot_eq (Pv_q hv (r := (m : Int)) (by omega))
  have hok := PotOK_q hok
  rw [show (parQ p (m : Int)).Rows.toNat = m by show ((m : Int)).toNat = m; omega] at hok
  have e1 : (T_api_Paragraph.mk p.Tokens p.Width (m : Int) p.Table) = parQ p (m : Int) := rfl
  rw [e1, hl]
  simp only [Option.bind_some]
  have hat := fA_at hok (m := m) (i := 0) (Nat.le_refl _) (by omega)
  have hA := fA_ok hok m 0 (Nat.le_refl _) (by omega)
  rw [Nat.sub_self, Nat.zero_mul, Nat.zero_add] at hat
  simp only [Int.natCast_zero] at hat
  rw [hat]
  simp only [Option.bind_some]
  by_cases q : m = r
  · right
    subst q
    have := tight_A (A := fun a b => fA l p.Tokens.length m a b) (R := m) (fun a b ha hb => hE a b (by omega) hb) (fun a b ha hb => fA_ok hok a b ha hb) (Nat.le_refl _) (by omega) ht
    rw [this]
    simp
  · left
    have hne : fA l p.Tokens.length m m 0 ≠ fE f r 0 := fun e => by
      obtain ⟨_, ⟨s, hs, hps⟩, _⟩ := hA.mem (by rw [e]; exact ht.1)
      have a := (hE s 0 (by omega) (by omega)).has hps
      rw [e] at a
      rcases ht.2 s (by omega) with b | b
      · exact a.1 b
      · have := a.2.2; omega
    rw [if_neg (by simpa using hne), wr64 (by omega)]
    exact ⟨_, rfl, ⟨by first | rfl | trivial, m + 1, rfl, by omega, by omega⟩, by omega⟩
def inl (L : List Nat) : List Int := L.map fun (j : Nat) => (j : Int)
theorem ends_inner {p : T_api_Paragraph} (hv : Pv p) {R : Nat} (hR : R ≤ 4) {f : List (List Int)} (hf : TabOK p R f) {r i j : Nat} (hr : r + 1 ≤ R) (hij : i < j) (hj : j ≤ p.Tokens.length) (hok : OkS (fitP p) (cPr p) (fE f) r i j) (hno : ∀ k, i < k → k < j → ¬ OkS (fitP p) (cPr p) (fE f) r i k) {z : List Int} :
    ∃ e, iter (g_rowbreak_Break_s6 (shP p (aimP p)) f (((r + 1 : Nat) : Int), (i : Int), z)) ((i : Int) + 1) = some e ∧ e.1 = (j : Int) := by
  have hn := hv.ok.toks
  have hE := fE_ok hf
  refine iter_post (fun x => ∃ k : Nat, x = (k : Int) ∧ i < k ∧ k ≤ j) (fun x => j + 1 - x.toNat) (fun e => Prod.fst e = (j : Int)) ⟨i + 1, rfl, by omega, by omega⟩ (by show j + 1 - _ < _; omega) ?_
  rintro x ⟨k, rfl, hk1, hk2⟩
  unfold g_rowbreak_Break_s6
  dsimp only
  rw [fits_eq hv.ok _ (by omega) (by omega)]
  simp only [Option.bind_some]
  obtain ⟨row, a1, a2⟩ := fE_at hf (r := r) (i := k) (by omega) (by omega)
  obtain ⟨row', b1, b2⟩ := fE_at hf (r := r + 1) (i := i) (by omega) (by omega)
  have hbd := lst_bd (by omega) (hE r k (by omega) (by omega))
  have hc := cPr_le p i k
  rw [wr64 (x := ((r + 1 : Nat) : Int) - 1) (by omega), show ((r + 1 : Nat) : Int) - 1 = (r : Int) by omega, wr64 (x := (k : Int) + 1) (by omega), a1]
  simp only [Option.bind_some]
  rw [a2]
  simp only [Option.bind_some]
  rw [cost_eq hv.ok hk1 (by omega), b1]
  simp only [Option.bind_some]
  rw [b2]
  simp only [Option.bind_some]
  rw [wr64 (x := cPr p i k + fE f r k) (by omega)]
  by_cases e : k = j
  · right
    subst e
    rw [if_pos hok.1, if_neg (by simpa using hok.2.1), if_neg (by simpa using hok.2.2)]
    exact ⟨_, rfl, rfl⟩
  · left
    have hnk := hno k hk1 (by omega)
    refine ⟨((k + 1 : Nat) : Int), ?_, ⟨k + 1, rfl, by omega, by omega⟩, by omega⟩
    cases hf2 : fitP p i k
    · rfl
    · rw [if_pos rfl]
      by_cases q1 : fE f r k = -1
      · rw [if_pos (by simpa using q1)]; rfl
      · have q2 : cPr p i k + fE f r k ≠ fE f (r + 1) i := fun h => hnk ⟨hf2, q1, h⟩
        rw [if_neg (by simpa using q1), if_pos (by simpa using q2)]; rfl
theorem ends_prog {p : T_api_Paragraph} (hv : Pv p) {R : Nat} (hR : R ≤ 4) {f : List (List Int)} (hf : TabOK p R f) {r : Nat} {G : List Nat} (hr : r ≤ R) (hG : Gr p.Tokens.length (fitP p) (cPr p) (fE f) r 0 G) :
    iter (g_rowbreak_Break_s5 (shP p (aimP p)) f) ((r : Int), 0, []) = some (inl G) := by
  have hn := hv.ok.toks
  refine iter_of (fun x e => e = inl G ∧ ∃ (r i : Nat) (L : List Nat), x.1 = (r : Int) ∧ x.2.1 = (i : Int) ∧ r ≤ R ∧ i ≤ p.Tokens.length ∧ Gr p.Tokens.length (fitP p) (cPr p) (fE f) r i L ∧ x.2.2 ++ inl L = inl G ∧ x.2.2.length + r ≤ 4) (fun x => x.1.toNat) ?_ (x := ((r : Int), 0, [])) ⟨rfl, r, 0, G, rfl, rfl, hr, by omega, hG, rfl, by simp; omega⟩ (by show ((r : Int)).toNat < _; omega)
  rintro ⟨x, y, acc⟩ e ⟨rfl, r, i, L, hx, hy, hr, hi, hg, hacc, hl⟩
  dsimp only at hx hy hacc hl ⊢
  subst hx hy
  unfold g_rowbreak_Break_s5
  dsimp only
  cases hg with
  | nil =>
    right
    rw [if_neg (by simp), ← hacc]
    simp [inl]
  | @cons r i j L a1 a2 a3 a4 a5 =>
    left
    obtain ⟨e, he, hej⟩ := ends_inner hv hR hf hr a1 a2 a3 a4 (z := acc)
    rw [if_pos (by first | (simp; done) | (simp; omega)), wr64 (x := (i : Int) + 1) (by omega), he]
    simp only [Option.bind_some]
    rw [if_pos (by omega), hej, wr64 (by omega)]
    refine ⟨_, rfl, ⟨by first | rfl | trivial, r, j, L, by dsimp only; omega, rfl, by omega, a2, a5, ?_, by simp; omega⟩, by dsimp only; omega⟩
    dsimp only
    rw [← hacc]
    simp [inl]
theorem refends_inner {p : T_api_Paragraph} (hv : Pv p) {R r0 k : Nat} (hR : R ≤ 4) {f : List (List Int)} (hf : TabOK p R f) {l : List Int} (hl : PotOK p r0 l) {r i j : Nat} (h0 : r0 ≤ R) (hk : r0 = k + (r + 1)) (hij : i < j) (hj : j ≤ p.Tokens.length) (ht : Tight (fE f) (r + 1) i) (hok : OkS (fitP p) (cPr p) (fE f) r i j) (hno : ∀ k, i < k → k < j → ¬ OkS (fitP p) (cPr p) (fE f) r i k) {z : List Int} (hz : z.length ≤ 10) :
    iter (g_ref36_Break_s3 p l ((i : Int), (k : Int), z)) ((i : Int) + 1) = some (z ++ [(j : Int)], (j : Int)) := by
  have hn := hv.ok.toks
  have hE := fE_ok hf
  refine iter_of (fun x e => e = (z ++ [(j : Int)], (j : Int)) ∧ ∃ m : Nat, x = (m : Int) ∧ i < m ∧ m ≤ j) (fun x => j + 1 - x.toNat) ?_ ⟨rfl, i + 1, rfl, by omega, by omega⟩ (by show j + 1 - _ < _; omega)
  rintro x e ⟨rfl, m, rfl, hm1, hm2⟩
  unfold g_ref36_Break_s3
  dsimp only
  have a1 := fA_at hl (m := r) (i := m) (by omega) (by omega)
  have a2 := fA_at hl (m := r + 1) (i := i) (by omega) (by omega)
  rw [show r0 - r = k + 1 by omega] at a1
  rw [show r0 - (r + 1) = k by omega] at a2
  have hbd := lstA_bd (by omega) (fA_ok hl r m (by omega) (by omega))
  have hc := cPr_le p i m
  rw [if_pos (by simp; omega), wr64 (x := (k : Int) + 1) (by omega), show ((k : Int) + 1) = ((k + 1 : Nat) : Int) by omega, idx_w hn (by omega) (by omega), idx_w hn (by omega) (by omega), a1]
  simp only [Option.bind_some]
  rw [refFits_eq hv.ok hm1 (by omega), refRow_eq hv.ok hm1 (by omega), a2]
  simp only [Option.bind_some]
  rw [wr64 (x := cPr p i m + fA l p.Tokens.length r0 r m) (by omega), wr64 (x := (m : Int) + 1) (by omega)]
  have hcond := tight_cond (A := fun a b => fA l p.Tokens.length r0 a b) (R := r0) (fun a b ha hb => hE a b (by omega) hb) (fun a b ha hb => fA_ok hl a b ha hb) (r := r) (i := i) (j := m) (by omega) hm1 (by omega) ht
  have e1 : (if fitP p i m = true then if decide (0 ≤ fA l p.Tokens.length r0 r m) = true then some (cPr p i m + fA l p.Tokens.length r0 r m == fA l p.Tokens.length r0 (r + 1) i) else some false else some false : Option Bool) = some (decide (fitP p i m = true ∧ 0 ≤ fA l p.Tokens.length r0 r m ∧ cPr p i m + fA l p.Tokens.length r0 r m = fA l p.Tokens.length r0 (r + 1) i)) := by
    cases fitP p i m
    · simp
    · by_cases q : 0 ≤ fA l p.Tokens.length r0 r m
      · by_cases q2 : cPr p i m + fA l p.Tokens.length r0 r m = fA l p.Tokens.length r0 (r + 1) i
        · simp [q, q2]
        · simp [q, q2]
      · simp [q]
  rw [e1]
  simp only [Option.bind_some]
  by_cases e : m = j
  · right
    subst e
    rw [if_pos (by rw [decide_eq_true_iff]; exact hcond.2 hok), if_pos (by omega)]
  · left
    rw [if_neg (by rw [decide_eq_true_iff]; exact fun h => hno m hm1 (by omega) (hcond.1 h))]
    exact ⟨_, rfl, ⟨by first | rfl | trivial, m + 1, rfl, by omega, by omega⟩, by omega⟩
theorem ends_ref {p : T_api_Paragraph} (hv : Pv p) {R r0 : Nat} (hR : R ≤ 4) {f : List (List Int)} (hf : TabOK p R f) {l : List Int} (hl : PotOK p r0 l) (h0 : r0 ≤ R) (ht : Tight (fE f) r0 0) {G : List Nat} (hG : Gr p.Tokens.length (fitP p) (cPr p) (fE f) r0 0 G) :
    iter (g_ref36_Break_s2 p l) (0, 0, []) = some (inl G) := by
  have hn := hv.ok.toks
  have hE := fE_ok hf
  refine iter_of (fun x e => e = inl G ∧ ∃ (k r i : Nat) (L : List Nat), x.1 = (i : Int) ∧ x.2.1 = (k : Int) ∧ r0 = k + r ∧ i ≤ p.Tokens.length ∧ Gr p.Tokens.length (fitP p) (cPr p) (fE f) r i L ∧ Tight (fE f) r i ∧ x.2.2 ++ inl L = inl G ∧ x.2.2.length = k) (fun x => r0 + 1 - x.2.1.toNat) ?_ (x := (0, 0, [])) ⟨rfl, 0, r0, 0, G, rfl, rfl, by omega, by omega, hG, ht, rfl, rfl⟩ (by show r0 + 1 - _ < _; omega)
  rintro ⟨x, y, acc⟩ e ⟨rfl, k, r, i, L, hx, hy, hr, hi, hg, hti, hacc, hlen⟩
  dsimp only at hx hy hacc hlen ⊢
  subst hx hy
  unfold g_ref36_Break_s2
  dsimp only
  cases hg with
  | nil =>
    right
    rw [if_neg (by simp), ← hacc]
    simp [inl]
  | @cons r i j L a1 a2 a3 a4 a5 =>
    left
    rw [if_pos (by simp; omega), wr64 (x := (i : Int) + 1) (by omega), refends_inner hv hR hf hl h0 hr a1 a2 hti a3 a4 (by omega)]
    simp only [Option.bind_some]
    rw [wr64 (by omega)]
    refine ⟨_, rfl, ⟨by first | rfl | trivial, k + 1, r, j, L, rfl, rfl, by omega, a2, a5, ?_, ?_, by simp; omega⟩, by dsimp only; omega⟩
    · exact tight_next (R := R) hE (by omega) a1 a2 hti a3
    · dsimp only
      rw [← hacc]
      simp [inl]
theorem Break_both {p : T_api_Paragraph} (h : Pok p) : ∃ b e, g_rowbreak_Break p = some (b, e) ∧ g_ref36_Break p = some (b, e) ∧ b.Ends.length ≤ 4 ∧ (e = 0 → ckP p = 0 ∧ 0 ≤ b.Cost ∧ b.Cost ≤ 264000000 ∧ ∃ (r : Nat) (x : Int), (r : Int) ≤ p.Rows ∧ PP p r 0 x) := by
  unfold g_rowbreak_Break g_ref36_Break
  rw [par_prog h, par_ref h]
  simp only [Option.bind_some]
  by_cases h0 : ckP p = 0
  rotate_left
  · rw [if_pos (by simpa using h0), if_pos (by simpa using h0)]
    exact ⟨_, _, rfl, rfl, by simp, fun e => absurd e h0⟩
  rw [if_neg (by simpa using h0), if_neg (by simpa using h0)]
  have hv := ckP_0 h h0
  have hn := h.toks
  have hrw := hv.rows
  obtain ⟨R, hR⟩ : ∃ R : Nat, p.Rows = (R : Int) := ⟨p.Rows.toNat, by omega⟩
  have hRn : p.Rows.toNat = R := by rw [hR]; rfl
  obtain ⟨f, hf, htab⟩ := exact_eq hv
  obtain ⟨l, hl, hpot⟩ := pot_eq hv
  rw [hRn] at htab hpot
  obtain ⟨l', hl', hpot'⟩ := pots_key hv hR htab
  obtain rfl := pot_uniq hpot hpot'
  rw [open_eq h]
  simp only [Option.bind_some]
  rw [hf, hl]
  simp only [Option.bind_some]
  rw [hl']
  simp only [Option.bind_some]
  have hA := fA_ok hpot R 0 (Nat.le_refl _) (by omega)
  have hat := fA_at hpot (m := R) (i := 0) (Nat.le_refl _) (by omega)
  rw [Nat.sub_self, Nat.zero_mul, Nat.zero_add] at hat
  simp only [Int.natCast_zero] at hat
  rw [hat]
  simp only [Option.bind_some]
  generalize fA l p.Tokens.length R R 0 = y at *
  have hyb := lstA_bd (by omega) hA
  by_cases hy : y = -1
  · rw [if_pos (by simpa using hy), if_pos (by simp; omega)]
    exact ⟨_, _, rfl, rfl, by simp, fun e => by cases e⟩
  · rw [if_neg (by simpa using hy), if_neg (by simp; omega)]
    obtain ⟨r, k1, k2, k3, k4, k5⟩ := rows_key hv hR htab hA hy
    obtain ⟨G, hG⟩ := gr_exists (R := R) (fE_ok htab) r 0 k3 (by omega) (by rw [k4]; exact hy)
    have k6 := refrows_key hv hR htab k2 k3 k5
    rw [k4] at k6
    obtain ⟨l2, m1, m2⟩ := pot_eq (Pv_q hv (r := (r : Int)) (by omega))
    have m2 := PotOK_q m2
    rw [show (parQ p (r : Int)).Rows.toNat = r by show ((r : Int)).toNat = r; omega] at m2
    have e1 : (T_api_Paragraph.mk p.Tokens p.Width (r : Int) p.Table) = parQ p (r : Int) := rfl
    rw [k1, k6]
    simp only [Option.bind_some]
    rw [e1, m1, ends_prog hv (by omega) htab k3 hG]
    simp only [Option.bind_some]
    rw [ends_ref hv (by omega) htab m2 k3 k5 hG]
    refine ⟨_, _, rfl, rfl, by have := gr_len hG; simp [inl]; omega, fun _ => ⟨h0, by dsimp only; omega, by dsimp only; omega, r, y, by omega, ?_⟩⟩
    have := (fE_ok htab r 0 k3 (by omega)).mem (by rw [k4]; exact hy)
    rw [k4] at this
    exact this.2.1
end Go.Proofs.YtalfcmgcjdkolaaGreatDoor
namespace Go.Proofs.YtalfcmgcjdkolaaGreatDoor
set_option maxRecDepth 100000
set_option maxHeartbeats 10000000
theorem sum_loop {α : Type} (l : List α) (tx : α → List UInt8) (len : List UInt8 → Option Int) (hn : l.length ≤ 8) (ht : ∀ a ∈ l, (tx a).length ≤ 1048576) (hlen : ∀ a ∈ l, len (tx a) = some (chL (tx a))) {step : Int × Int → Option (Nx (Int × Int) Int)}
    (hst : ∀ x, step x = (if (decide (x.2 < (l.length : Int))) then ((atI l x.2).bind fun y => ((len (tx y)).bind fun r => (some (.go ((IntKind.i64.wrap (x.1 + r)), (IntKind.i64.wrap (x.2 + 1))))))) else (some (.out x.1)))) :
    iter step (0, 0) = some ((l.map fun a => chL (tx a)).sum) := by
  refine iter_of (fun x e => e = (l.map fun a => chL (tx a)).sum ∧ ∃ i : Nat, x.2 = (i : Int) ∧ i ≤ l.length ∧ x.1 + ((l.drop i).map fun a => chL (tx a)).sum = (l.map fun a => chL (tx a)).sum ∧ -(i : Int) ≤ x.1 ∧ x.1 ≤ (i : Int) * 1048576) (fun x => l.length - x.2.toNat) ?_ (x := (0, 0)) ⟨rfl, 0, rfl, by omega, by simp, by simp, by simp⟩ (by show l.length - 0 < _; omega)
  rintro ⟨a, x⟩ e ⟨rfl, i, hx, hi, hs, h1, h2⟩
  dsimp only at hx hs h1 h2 ⊢
  subst hx
  rw [hst]
  dsimp only
  by_cases h : i < l.length
  · left
    have hb := chL_le _ (ht _ (List.getElem_mem h))
    rw [if_pos (by simpa using h), atI_nat h, wr64 (x := (i : Int) + 1) (by omega)]
    simp only [Option.bind_some]
    rw [hlen _ (List.getElem_mem h)]
    simp only [Option.bind_some]
    rw [wr64 (by omega)]
    rw [List.drop_eq_getElem_cons h, List.map_cons, List.sum_cons] at hs
    exact ⟨_, rfl, ⟨by first | rfl | trivial, i + 1, rfl, h, by dsimp only; omega, by dsimp only; omega, by dsimp only; omega⟩, by dsimp only; omega⟩
  · right
    rw [if_neg (by simpa using h)]
    rw [List.drop_eq_nil_of_le (by omega)] at hs
    simp at hs
    rw [hs]
theorem smP_sum (p : T_api_Paragraph) : ∀ k, k ≤ p.Tokens.length → smP p k = ((p.Tokens.take k).map fun t => chL t.Text).sum
  | 0, _ => by simp [smP]
  | k + 1, h => by
    rw [show smP p (k + 1) = smP p k + tlen p k from rfl, smP_sum p k (by omega), tlen_at p (by omega), List.take_add_one, List.getElem?_eq_getElem (by omega), List.map_append, List.sum_append]
    congr 1
    simp
theorem pp_room {p : T_api_Paragraph} (hw : 0 ≤ p.Width) : ∀ {r i : Nat} {x : Int}, PP p r i x → smP p p.Tokens.length - smP p i + ((p.Tokens.length : Int) - i) ≤ (r : Int) * (p.Width + 1) := by
  intro r i x h
  induction h with
  | nil => simp
  | @cons r i j x a1 a2 a3 a4 ih =>
    unfold fitP lnP at a3
    simp only [decide_eq_true_eq] at a3
    have e : ((r + 1 : Nat) : Int) * (p.Width + 1) = (r : Int) * (p.Width + 1) + (p.Width + 1) := by rw [Int.natCast_add, Int.add_mul]; omega
    omega
theorem ckWs_at : ∀ {a : Int} {l : List T_api_Word}, ckWs a l = 0 → ∀ i (h : i < l.length), (l[i].Text ≠ [] ∧ hasSp l[i].Text = false ∧ gv l[i].Text = true ∧ 0 ≤ l[i].Span.In ∧ l[i].Span.In < l[i].Span.Out ∧ l[i].Span.Out ≤ 5184000) ∧ (∀ h0 : 0 < i, (l[i - 1]'(by omega)).Span.Out ≤ l[i].Span.In) ∧ (i = 0 → a ≤ l[i].Span.In)
  | a, [], h, i, hi => by simp at hi
  | a, w :: l, h, i, hi => by
    unfold ckWs at h
    by_cases hw : ckW w a = 0
    · rw [if_neg (by omega)] at h
      have hwf : (w.Text ≠ [] ∧ hasSp w.Text = false ∧ gv w.Text = true ∧ 0 ≤ w.Span.In ∧ w.Span.In < w.Span.Out ∧ w.Span.Out ≤ 5184000) ∧ a ≤ w.Span.In := by
        unfold ckW at hw
        by_cases h1 : w.Text = [] ∨ hasSp w.Text = true
        · rw [if_pos h1] at hw; cases hw
        rw [if_neg h1] at hw
        by_cases h2 : gv w.Text = false
        · rw [if_pos h2] at hw; cases hw
        rw [if_neg h2] at hw
        by_cases h3 : w.Span.In < 0 ∨ w.Span.Out ≤ w.Span.In ∨ 5184000 < w.Span.Out
        · rw [if_pos h3] at hw; cases hw
        rw [if_neg h3] at hw
        by_cases h4 : w.Span.In < a
        · rw [if_pos h4] at hw; cases hw
        refine ⟨⟨fun e => h1 (.inl e), ?_, by simpa using h2, by omega, by omega, by omega⟩, by omega⟩
        cases hh : hasSp w.Text
        · rfl
        · exact absurd (.inr hh) h1
      cases i with
      | zero => exact ⟨hwf.1, fun h0 => by omega, fun _ => hwf.2⟩
      | succ i =>
        have ih := ckWs_at h i (by simpa using hi)
        refine ⟨ih.1, fun _ => ?_, fun e => by omega⟩
        cases i with
        | zero => exact ih.2.2 rfl
        | succ i => exact ih.2.1 (by omega)
    · rw [if_pos hw] at h; exact absurd h hw
theorem words_mono {a : Int} {l : List T_api_Word} (h : ckWs a l = 0) {i : Nat} : ∀ {j : Nat} (hij : i ≤ j) (hj : j < l.length), (l[i]'(by omega)).Span.In ≤ l[j].Span.In ∧ (l[i]'(by omega)).Span.Out ≤ l[j].Span.Out
  | 0, hij, hj => by
    obtain rfl : i = 0 := by omega
    exact ⟨Int.le_refl _, Int.le_refl _⟩
  | j + 1, hij, hj => by
    by_cases e : i = j + 1
    · subst e; exact ⟨Int.le_refl _, Int.le_refl _⟩
    · have ih := words_mono h (i := i) (j := j) (by omega) (by omega)
      have a1 := (ckWs_at h (j + 1) hj).2.1 (by omega)
      have a2 := (ckWs_at h (j + 1) hj).1
      have a3 := (ckWs_at h j (by omega)).1
      simp only [Nat.add_sub_cancel] at a1
      omega
structure Sv (s : T_api_Speech) : Prop where
  ok : Sok s
  rate : rtV s.Rate = true
  ne : s.Words ≠ []
  words : ckWs 0 s.Words = 0
  table : pcS s.Table = 0
  house : okR s.House
theorem ckS_0 {p : T_api_Profile} (h : ckS p = 0) : okR p := by
  unfold ckS at h
  by_cases h1 : isNm p.Name = false
  · rw [if_pos h1] at h; cases h
  rw [if_neg h1] at h
  by_cases h2 : okR p
  · exact h2
  · rw [if_pos h2] at h; cases h
theorem ckSp_0 {s : T_api_Speech} (h : Sok s) (h0 : ckSp s = 0) : Sv s := by
  unfold ckSp at h0
  by_cases h1 : rtV s.Rate = false
  · rw [if_pos h1] at h0; cases h0
  rw [if_neg h1] at h0
  by_cases h2 : s.Words = []
  · rw [if_pos h2] at h0; cases h0
  rw [if_neg h2] at h0
  by_cases h3 : ckWs 0 s.Words = 0
  rotate_left
  · rw [if_pos h3] at h0; exact absurd h0 h3
  rw [if_neg (by omega)] at h0
  by_cases h4 : shC s.Shots = 0
  rotate_left
  · rw [if_pos h4] at h0; exact absurd h0 h4
  rw [if_neg (by omega)] at h0
  by_cases h5 : pcS s.Table = 0
  rotate_left
  · rw [if_pos h5] at h0; exact absurd h0 h5
  rw [if_neg (by omega)] at h0
  exact ⟨h, by simpa using h1, h2, h3, h5, ckS_0 h0⟩
def psp (s : T_api_Speech) (i j : Nat) : T_api_Paragraph := ⟨tkP s.Words i j, s.House.Cols, s.House.Rows, s.Table⟩
theorem psp_ok {s : T_api_Speech} (h : Sok s) {i j : Nat} (hj : j ≤ s.Words.length) : Pok (psp s i j) := by
  refine ⟨?_, fun t ht => ?_⟩
  · have := tkP_len s.Words (i := i) hj
    have := h.words
    show (tkP s.Words i j).length ≤ 8
    omega
  · obtain ⟨k, hk, rfl⟩ := List.getElem_of_mem ht
    have hk' : k < (tkP s.Words i j).length := hk
    have hl := tkP_len s.Words (i := i) hj
    show ((tkP s.Words i j)[k]).Text.length ≤ 1048576
    rw [tkP_at s.Words hj hk', tkA_text s.Words (show i + k < s.Words.length by omega)]
    exact h.texts _ (List.getElem_mem _)
theorem zero_le_needS (r c l : Int) (hr : 0 ≤ r ∧ r ≤ 255) (hc : 0 ≤ c) (hc2 : c ≤ 800) : 0 ≤ (needS r c l).1 ∧ (needS r c l).1 ≤ 5184000 := by
  obtain ⟨_, _, _, e4⟩ := rates r hr.1 hr.2
  unfold needS
  cases hv : rtV r with
  | false => simp
  | true =>
    obtain ⟨_, t0, t1⟩ := e4 hv
    cases h1 : wiB c 0 10000 with
    | false => simp
    | true =>
      cases h2 : wiB l 1 10000 with
      | false => simp
      | true =>
        have hl := wiB_t h2
        obtain ⟨m1, m2⟩ := mul_small 10000 hl.1 hl.2 t0 t1 (by omega)
        have m3 : 2002 ≤ l * rtT r := by
          have : 1 * rtT r ≤ l * rtT r := Int.mul_le_mul_of_nonneg_right hl.1 (by omega)
          omega
        simp only [if_true, Bool.and_self]
        refine ⟨?_, (upQ_le (by omega) (by omega)).2 ?_⟩
        · unfold upQ; exact Int.tdiv_nonneg (by omega) (by omega)
        · have := Int.mul_le_mul_of_nonneg_left m3 (show (0 : Int) ≤ 5184000 by omega)
          omega
theorem maxe (x : Int) : (if x > 0 then x else 0) = (if 0 > x then 0 else x) := by
  split <;> split <;> omega
def zPt : T_api_Part := ⟨0, 0, [], ⟨0, 0⟩⟩
theorem tkP_text (ws : List T_api_Word) {i j : Nat} (hj : j ≤ ws.length) : ((tkP ws i j).map fun t => chL t.Text) = (((ws.drop i).take (j - i)).map fun w => chL w.Text) := by
  refine List.ext_getElem (by simp [tkP, tks]) fun k h1 h2 => ?_
  have hl := tkP_len ws (i := i) hj
  simp only [List.length_map] at h1 h2
  rw [List.getElem_map, List.getElem_map, tkP_at ws hj h1, tkA_text ws (by omega)]
  simp
def BrFin (p : T_api_Paragraph) (b : T_api_Breaks) : Prop := ckP p = 0 ∧ 0 ≤ b.Cost ∧ b.Cost ≤ 264000000 ∧ ∃ (r : Nat) (x : Int), (r : Int) ≤ p.Rows ∧ PP p r 0 x
theorem Break_both2 {p : T_api_Paragraph} (h : Pok p) : ∃ b e, g_rowbreak_Break p = some (b, e) ∧ g_ref36_Break p = some (b, e) ∧ b.Ends.length ≤ 4 ∧ (e = 0 → BrFin p b) := Break_both h
theorem part_both {s : T_api_Speech} (hs : Sv s) {i j : Nat} (hij : i < j) (hj : j ≤ s.Words.length) : ∃ q : T_api_Part × Int × Int, g_segment_part s (tks s.Words) (i : Int) (j : Int) = some q ∧ (g_ref38_Check s = some 0 → g_ref38_Part s (i : Int) (j : Int) = some q) ∧ q.1.Breaks.length ≤ 4 ∧
    (q.2.2 = 0 → q.1.From = (i : Int) ∧ q.1.To = (j : Int) ∧ 0 ≤ q.2.1 ∧ q.2.1 ≤ 30000000000000 ∧ smP (psp s i j) (j - i) + ((j : Int) - i) ≤ s.House.Rows * (s.House.Cols + 1)) := by
  have h := hs.ok
  have hn := h.words
  have hP := psp_ok h (i := i) hj
  have hlen : (psp s i j).Tokens.length = j - i := tkP_len s.Words hj
  obtain ⟨b, e, hb1, hb2, hbe, hb3⟩ := Break_both2 hP
  have hi' : i < s.Words.length := by omega
  have hj' : j - 1 < s.Words.length := by omega
  have wi := ckWs_at hs.words i hi'
  have wj := ckWs_at hs.words (j - 1) hj'
  have wm := words_mono hs.words (show i ≤ j - 1 by omega) hj'
  have wi := wi.1
  have wj := wj.1
  have hfalse : (if (decide ((i : Int) < 0)) then (some true) else (if (decide ((j : Int) ≤ (i : Int))) then (some true) else (some (decide (((tks s.Words).length : Int) < (j : Int))))) : Option Bool) = some false := by
    rw [if_neg (by simp), if_neg (by simp; omega), tks_len]
    simp; omega
  have hfalse2 : (if (decide ((i : Int) < 0)) then (some true) else (if (decide ((j : Int) ≤ (i : Int))) then (some true) else (some (decide ((s.Words.length : Int) < (j : Int))))) : Option Bool) = some false := by
    rw [if_neg (by simp), if_neg (by simp; omega)]
    simp; omega
  have ej : IntKind.i64.wrap ((j : Int) - 1) = ((j - 1 : Nat) : Int) := by rw [wr64 (by omega)]; omega
  have ed : IntKind.i64.wrap ((j : Int) - (i : Int)) = ((j - i : Nat) : Int) := by rw [wr64 (by omega)]; omega
  have ai := atI_nat hi'
  have aj := atI_nat hj'
  obtain ⟨Wi, hWi⟩ : ∃ Wi, s.Words[i] = Wi := ⟨_, rfl⟩
  obtain ⟨Wj, hWj⟩ : ∃ Wj, s.Words[j - 1] = Wj := ⟨_, rfl⟩
  rw [hWi] at wi ai wm
  rw [hWj] at wj aj wm
  obtain ⟨fr, hfr⟩ : ∃ fr, Wj.Span.Out - Wi.Span.In = fr := ⟨_, rfl⟩
  have hfrb : 0 ≤ fr ∧ fr ≤ 5184000 := by omega
  have ef : IntKind.i64.wrap (Wj.Span.Out - Wi.Span.In) = fr := by rw [hfr]; exact wr64 (by omega)
  have hsub : subI (tks s.Words) (i : Int) (j : Int) = some (tkP s.Words i j) := by
    unfold subI tkP
    rw [if_pos (by have := tks_len s.Words; omega)]
    simp only [Int.toNat_natCast]
  have hwsub : subI s.Words (i : Int) (j : Int) = some ((s.Words.drop i).take (j - i)) := by
    unfold subI
    rw [if_pos (by omega)]
    simp only [Int.toNat_natCast]
  have hpar : g_ref38_paragraph s (i : Int) (j : Int) = some (psp s i j) := paragraph_eq h (Nat.le_of_lt hij) hj
  have hpsp : (T_api_Paragraph.mk (tkP s.Words i j) s.House.Cols s.House.Rows s.Table) = psp s i j := rfl
  have hv : ∃ v : Bool, (if (decide (1 < ((j - i : Nat) : Int))) then (some (decide (s.House.MaxFrames < fr))) else (some false) : Option Bool) = some v := by
    split
    · exact ⟨_, rfl⟩
    · exact ⟨_, rfl⟩
  obtain ⟨v, hv⟩ := hv
  cases v
  rotate_left
  · refine ⟨(zPt, 0, 2), ?_, fun hc => ?_, by simp [zPt], fun e => by cases e⟩
    · simp only [g_segment_part, hfalse, ej, ed, ef, ai, aj, hv, Option.bind_some, Bool.false_eq_true, if_false, if_true, zPt]
    · simp only [g_ref38_Part, hc, bne_self_eq_false, hfalse2, ej, ed, ef, ai, aj, hv, Option.bind_some, Bool.false_eq_true, if_false, if_true, zPt]
  by_cases he : e = 0
  rotate_left
  · have hb : (e != 0) = true := by simpa using he
    refine ⟨(zPt, 0, e), ?_, fun hc => ?_, by simp [zPt], fun q => absurd q he⟩
    · simp only [g_segment_part, hfalse, ej, ed, ef, ai, aj, hv, hsub, g_segment_paragraph, hpsp, hb1, hb, Option.bind_some, Bool.false_eq_true, if_false, if_true, zPt]
    · simp only [g_ref38_Part, hc, bne_self_eq_false, hfalse2, ej, ed, ef, ai, aj, hv, hpar, hb2, hb, Option.bind_some, Bool.false_eq_true, if_false, if_true, zPt]
  have hb3 := hb3 he
  unfold BrFin at hb3
  obtain ⟨hck, hc0, hc1, r, x, hr, hpp⟩ := hb3
  have hpv := ckP_0 hP hck
  have hbne : (e != 0) = false := by simp [he]
  have hroom := pp_room (by have := hpv.width; omega) hpp
  have hrows := hpv.rows
  have hwid := hpv.width
  have hmulr : (r : Int) * ((psp s i j).Width + 1) ≤ (psp s i j).Rows * ((psp s i j).Width + 1) := Int.mul_le_mul_of_nonneg_right hr (by omega)
  have hmulr2 : (psp s i j).Rows * ((psp s i j).Width + 1) ≤ 4 * ((psp s i j).Width + 1) := Int.mul_le_mul_of_nonneg_right (by omega) (by omega)
  have hsm := smP_lt hpv (i := 0) (j := (psp s i j).Tokens.length) (by omega) (Nat.le_refl _)
  have hs0 : smP (psp s i j) 0 = 0 := rfl
  rw [hs0] at hsm hroom
  have hC : ((psp s i j).Tokens.map fun t => chL t.Text).sum = smP (psp s i j) (psp s i j).Tokens.length := by
    rw [smP_sum _ _ (Nat.le_refl _), List.take_length]
  have hC2 : (((s.Words.drop i).take (j - i)).map fun w => chL w.Text).sum = smP (psp s i j) (psp s i j).Tokens.length := by
    rw [← tkP_text s.Words hj]; exact hC
  obtain ⟨C, hCC⟩ : ∃ C, smP (psp s i j) (psp s i j).Tokens.length = C := ⟨_, rfl⟩
  rw [hCC] at hC hC2 hsm hroom
  have hCb : 0 ≤ C ∧ C ≤ 131 := by omega
  have l1 : iter (g_segment_load_s1 ((s.Words.drop i).take (j - i))) (0, 0) = some C := by
    rw [← hC2]
    exact sum_loop _ (fun w => w.Text) g_charset_Len (by simp; omega) (fun a ha => h.texts a (List.mem_of_mem_drop (List.mem_of_mem_take ha))) (fun a ha => len_prog _ (h.texts a (List.mem_of_mem_drop (List.mem_of_mem_take ha)))) (fun x => rfl)
  have l2 : iter (g_ref38_Part_s1 (psp s i j)) (0, 0) = some C := by
    rw [← hC]
    exact sum_loop _ (fun t => t.Text) g_ref08_Len hP.toks hP.texts (fun a ha => len_ref _ (hP.texts a ha)) (fun x => rfl)
  obtain ⟨nd1, nd2⟩ := Needed_eq s.Rate C s.House.Reading h.rate.1 h.rate.2
  have ndb := zero_le_needS s.Rate C s.House.Reading h.rate hCb.1 (by omega)
  obtain ⟨ins, hin, hil⟩ := inside_total s.Shots ⟨Wi.Span.In, Wj.Span.Out⟩ (by have := h.shots; omega)
  have hsh := h.shots
  have t1 : atI (tks s.Words) (((j - 1 : Nat) : Int)) = some (tkA s.Words (j - 1)) := by
    rw [atI_nat (by rw [tks_len]; omega), tks_at]
  have t2 : atI (psp s i j).Tokens (IntKind.i64.wrap (((j - i : Nat) : Int) - 1)) = some (tkA s.Words (j - 1)) := by
    rw [wr64 (by omega), show (((j - i : Nat) : Int) - 1) = ((j - i - 1 : Nat) : Int) by omega, atI_nat (by rw [hlen]; omega)]
    have := tkP_at s.Words hj (i := i) (k := j - i - 1) (by rw [tkP_len s.Words hj]; omega)
    rw [show i + (j - i - 1) = j - 1 by omega] at this
    exact congrArg some this
  have hstr := tkA_str s.Words (i := j - 1) (by omega) h.texts
  have hho := hs.house
  unfold okR at hho
  obtain ⟨nd, hnd⟩ : ∃ nd, needS s.Rate C s.House.Reading = nd := ⟨_, rfl⟩
  rw [hnd] at nd1 nd2 ndb
  have enf : IntKind.i64.wrap (nd.1 - fr) = nd.1 - fr := wr64 (by omega)
  have hroom2 : smP (psp s i j) (j - i) + ((j : Int) - i) ≤ s.House.Rows * (s.House.Cols + 1) := by
    rw [hlen] at hCC hroom
    rw [hCC]
    have e1 : (psp s i j).Rows = s.House.Rows := rfl
    have e2 : (psp s i j).Width = s.House.Cols := rfl
    rw [e1, e2] at hmulr
    rw [e2] at hroom
    omega
  obtain ⟨fa, hfa⟩ : ∃ fa, (if 0 > nd.1 - fr then 0 else nd.1 - fr) = fa := ⟨_, rfl⟩
  have hfab : 0 ≤ fa ∧ fa ≤ 5184000 := by rw [← hfa]; split <;> omega
  have hld : ∀ g : Int, 0 ≤ g → g ≤ 5184000 → ∀ la : Bool, okLd ⟨fa, g, (ins.length : Int), (tkA s.Words (j - 1)).Strength, la⟩ = true := fun g g0 g1 la => by
    unfold okLd wiB
    simp only [Bool.and_eq_true, decide_eq_true_eq]
    omega
  have hev : ∀ l : T_api_Load, okLd l = true → ((evS s.Table l).2 != 0) = false := fun l hl => by
    unfold evS
    rw [if_neg (by rw [hs.table]; simp), if_pos hl]; rfl
  by_cases hlast : j = s.Words.length
  · have hbq : ((j : Int) == (s.Words.length : Int)) = true := by simp [hlast]
    have hl2 := hev _ (hld 0 (by omega) (by omega) true)
    have hcb := evS_le s.Table ⟨fa, 0, (ins.length : Int), (tkA s.Words (j - 1)).Strength, true⟩
    obtain ⟨ev, hevv⟩ : ∃ ev, evS s.Table ⟨fa, 0, (ins.length : Int), (tkA s.Words (j - 1)).Strength, true⟩ = ev := ⟨_, rfl⟩
    rw [hevv] at hcb hl2
    have hw : IntKind.i64.wrap (b.Cost + ev.1) = b.Cost + ev.1 := wr64 (by omega)
    have hload : g_segment_load s (tks s.Words) (i : Int) (j : Int) = some ⟨fa, 0, (ins.length : Int), (tkA s.Words (j - 1)).Strength, true⟩ := by
      simp only [g_segment_load, ej, ai, aj, hwsub, Option.bind_some, l1, nd1, hin, t1, hbq, if_true, ef, enf, maxe, hfa]
    refine ⟨(⟨(i : Int), (j : Int), b.Ends, ⟨Wi.Span.In, Wj.Span.Out⟩⟩, b.Cost + ev.1, 0), ?_, fun hc => ?_, hbe, fun _ => ⟨rfl, rfl, by dsimp only; omega, by dsimp only; omega, hroom2⟩⟩
    · simp only [g_segment_part, hfalse, ej, ed, ef, ai, aj, hv, hsub, g_segment_paragraph, hpsp, hb1, hbne, Option.bind_some, Bool.false_eq_true, if_false, if_true, hload, ev_prog, hevv, hl2, hw]
    · simp only [g_ref38_Part, hc, bne_self_eq_false, hfalse2, ej, ed, ef, ai, aj, hv, hpar, hb2, hbne, Option.bind_some, Bool.false_eq_true, if_false, if_true, l2, nd2, ref_inside, hin, t2, hbq, enf, hfa, ev_ref, hevv, hw]
  · have hbq : ((j : Int) == (s.Words.length : Int)) = false := by
      simpa using (by omega : ¬ (j : Int) = (s.Words.length : Int))
    have hj2 : j < s.Words.length := by omega
    have an := atI_nat hj2
    have wn := ckWs_at hs.words j hj2
    have wg := wn.2.1 (by omega)
    have wn := wn.1
    rw [hWj] at wg
    obtain ⟨Wn, hWn⟩ : ∃ Wn, s.Words[j] = Wn := ⟨_, rfl⟩
    rw [hWn] at wn an wg
    have eg : IntKind.i64.wrap (Wn.Span.In - Wj.Span.Out) = Wn.Span.In - Wj.Span.Out := wr64 (by omega)
    have eg2 : IntKind.i64.wrap (s.House.MinGap - (Wn.Span.In - Wj.Span.Out)) = s.House.MinGap - (Wn.Span.In - Wj.Span.Out) := wr64 (by omega)
    obtain ⟨g, hgg⟩ : ∃ g, (if 0 > s.House.MinGap - (Wn.Span.In - Wj.Span.Out) then 0 else s.House.MinGap - (Wn.Span.In - Wj.Span.Out)) = g := ⟨_, rfl⟩
    have hgb : 0 ≤ g ∧ g ≤ 5184000 := by rw [← hgg]; split <;> omega
    have hl2 := hev _ (hld g hgb.1 hgb.2 false)
    have hcb := evS_le s.Table ⟨fa, g, (ins.length : Int), (tkA s.Words (j - 1)).Strength, false⟩
    obtain ⟨ev, hevv⟩ : ∃ ev, evS s.Table ⟨fa, g, (ins.length : Int), (tkA s.Words (j - 1)).Strength, false⟩ = ev := ⟨_, rfl⟩
    rw [hevv] at hcb hl2
    have hw : IntKind.i64.wrap (b.Cost + ev.1) = b.Cost + ev.1 := wr64 (by omega)
    have hload : g_segment_load s (tks s.Words) (i : Int) (j : Int) = some ⟨fa, g, (ins.length : Int), (tkA s.Words (j - 1)).Strength, false⟩ := by
      simp only [g_segment_load, ej, ai, aj, an, hwsub, Option.bind_some, l1, nd1, hin, t1, hbq, Bool.false_eq_true, if_false, ef, enf, maxe, hfa, eg, eg2, hgg]
    refine ⟨(⟨(i : Int), (j : Int), b.Ends, ⟨Wi.Span.In, Wj.Span.Out⟩⟩, b.Cost + ev.1, 0), ?_, fun hc => ?_, hbe, fun _ => ⟨rfl, rfl, by dsimp only; omega, by dsimp only; omega, hroom2⟩⟩
    · simp only [g_segment_part, hfalse, ej, ed, ef, ai, aj, hv, hsub, g_segment_paragraph, hpsp, hb1, hbne, Option.bind_some, Bool.false_eq_true, if_false, if_true, hload, ev_prog, hevv, hl2, hw]
    · simp only [g_ref38_Part, hc, bne_self_eq_false, hfalse2, ej, ed, ef, ai, aj, an, hv, hpar, hb2, hbne, Option.bind_some, Bool.false_eq_true, if_false, if_true, l2, nd2, ref_inside, hin, t2, hbq, enf, hfa, eg, eg2, hgg, ev_ref, hevv, hw]
end Go.Proofs.YtalfcmgcjdkolaaGreatDoor
namespace Go.Proofs.YtalfcmgcjdkolaaGreatDoor
set_option maxRecDepth 100000
set_option maxHeartbeats 10000000
theorem awake38 : g_law38_awake = some true := by decide +kernel
structure Szs (s : T_api_Speech) : Prop where
  rate : 0 ≤ s.Rate ∧ s.Rate ≤ 255
  texts : ∀ w ∈ s.Words, w.Text.length ≤ 1048576
  name : s.House.Name.length ≤ 1048576
  forb : s.House.Forbidden.length ≤ 1048576
theorem subH_take {α : Type} (l : List α) (k : Nat) : subH l (if (k : Int) < (l.length : Int) then (k : Int) else (l.length : Int)) = some (l.take k) := by
  unfold subH
  split
  · rename_i h
    rw [if_pos (by omega), Int.toNat_natCast, Nat.sub_zero, List.drop_zero]
  · rename_i h
    rw [if_pos (by omega), Int.toNat_natCast, Nat.sub_zero, List.drop_zero, List.take_length, List.take_of_length_le (by omega)]
theorem few_eq {s : T_api_Speech} (h : Szs s) : ∃ s', g_law38_few s = some s' ∧ Sok s' := by
  refine ⟨⟨s.Rate, s.Words.take 8, s.Shots.take 6, s.Table, s.House⟩, ?_, h.rate, ?_, fun w hw => h.texts w (List.mem_of_mem_take hw), ?_, h.name, h.forb⟩
  · unfold g_law38_few
    have a := subH_take s.Words 8
    have b := subH_take s.Shots 6
    simp only [Int.cast_ofNat_Int] at a b
    rw [a, b]; rfl
  · simp; omega
  · simp; omega
theorem eqI_same (l : List Int) (hl : l.length ≤ 1000000) : g_slices_Equal_int_int l l = some true := by
  unfold g_slices_Equal_int_int
  rw [if_neg (by simp)]
  have key := iter_idx (step := g_slices_Equal_int_int_s1 l l) l.length (by omega) (fun _ => .inr ()) (fun i hi => ?_) ?_
  · rw [key]; rfl
  · left
    unfold g_slices_Equal_int_int_s1
    rw [if_pos (by simpa using hi), atI_nat hi, wr64 (by omega)]
    simp
  · unfold g_slices_Equal_int_int_s1
    rw [if_neg (by simp)]
theorem same_refl (a : T_api_Part) (h : a.Breaks.length ≤ 1000000) : g_law38_same a a = some true := by
  unfold g_law38_same
  simp only [beq_self_eq_true, if_true, Bool.and_self, eqI_same _ h, Option.bind_some]
theorem Part_both {s : T_api_Speech} (h : Sok s) (a b : Int) : ∃ q : T_api_Part × Int × Int, g_segment_Part s a b = some q ∧ g_ref38_Part s a b = some q ∧ q.1.Breaks.length ≤ 4 := by
  have hc1 := seg_Check h
  have hc2 := ref_segCheck h
  by_cases h0 : ckSp s = 0
  rotate_left
  · have hb : (ckSp s != 0) = true := by simpa using h0
    refine ⟨(zPt, 0, ckSp s), ?_, ?_, by simp [zPt]⟩
    · simp only [g_segment_Part, hc1, Option.bind_some, hb, if_true, zPt]
    · simp only [g_ref38_Part, hc2, Option.bind_some, hb, if_true, zPt]
  have hb : (ckSp s != 0) = false := by simp [h0]
  have hv := ckSp_0 h h0
  have htk := tokens_eq h
  by_cases hr : 0 ≤ a ∧ a < b ∧ b ≤ (s.Words.length : Int)
  · obtain ⟨i, rfl⟩ : ∃ i : Nat, a = (i : Int) := ⟨a.toNat, by omega⟩
    obtain ⟨j, rfl⟩ : ∃ j : Nat, b = (j : Int) := ⟨b.toNat, by omega⟩
    obtain ⟨q, q1, q2, q3, _⟩ := part_both hv (i := i) (j := j) (by omega) (by omega)
    refine ⟨q, ?_, q2 (by rw [hc2, h0]), q3⟩
    simp only [g_segment_Part, hc1, hb, htk, q1, Option.bind_some, Bool.false_eq_true, if_false]
  · have hlen := tks_len s.Words
    have ht : ∀ n : Int, n = (s.Words.length : Int) → (if (decide (a < 0)) then (some true) else (if (decide (b ≤ a)) then (some true) else (some (decide (n < b)))) : Option Bool) = some true := fun n hn => by
      by_cases h1 : a < 0
      · simp [h1]
      · by_cases h2 : b ≤ a
        · simp [h1, h2]
        · simp [h1, h2]; omega
    refine ⟨(zPt, 0, 1), ?_, ?_, by simp [zPt]⟩
    · simp only [g_segment_Part, hc1, hb, htk, g_segment_part, ht ((tks s.Words).length : Int) (by rw [hlen]), Option.bind_some, Bool.false_eq_true, if_false, if_true, zPt]
    · simp only [g_ref38_Part, hc2, hb, ht (s.Words.length : Int) rfl, Option.bind_some, Bool.false_eq_true, if_false, if_true, zPt]
theorem SegmentParts_true (s : T_api_Speech) (a b : Int) (h : Szs s) : g_law38_SegmentParts s a b = some true := by
  obtain ⟨s', h1, h2⟩ := few_eq h
  obtain ⟨q, q1, q2, q3⟩ := Part_both h2 a b
  simp only [g_law38_SegmentParts, awake38, h1, q1, q2, same_refl q.1 (by omega), seg_Check h2, ref_segCheck h2, Option.bind_some, if_true, beq_self_eq_true]
end Go.Proofs.YtalfcmgcjdkolaaGreatDoor
namespace Go.Proofs.YtalfcmgcjdkolaaGreatDoor
open Go.ChangeShapes Go.WideShapes Go.ChangeAt Go.RowKit
set_option maxRecDepth 100000
theorem own : ownKnob Tryz.prog.godebug = none := by kernel_rfl
theorem laidOut : laidOutB Tryz.prog = true := by kernel_rfl
theorem standIn_all (ts : List TypeId) (h : ts.all (fun t => !(Tryz.prog.wantsStandIn t)) = true) (t : TypeId) (ht : t ∈ ts) : Tryz.pinned.checked.prog.wantsStandIn t = false := by
  have := List.all_eq_true.1 h t ht
  exact (show Tryz.prog.wantsStandIn t = false by simpa using this)
def putCells (cs : Array Value) : Obj → Obj
  | .cells _ t frozen => .cells cs t frozen
  | o => o
theorem u8t_of9 {W : World} (h : laidMetH Tryz.prog [("unicode/utf8.acceptRanges", Rows.laid_unicode_utf8_acceptRanges), ("unicode/utf8.first", Rows.laid_unicode_utf8_first)] W) : U8T W :=
  utf8Tabs_of_readsT (U8Types.of196 Tryz.laysValid) ⟨by kernel_rfl, by kernel_rfl, by kernel_rfl, by kernel_rfl, by kernel_rfl, by kernel_rfl, by kernel_rfl⟩ (Lib.laidMet.reads h (.tail _ (.head _))) (Lib.laidMet.reads h (.head _))
theorem cell_keep {w w' : World} {g c : Nat} {v : Value} (h : w.cell? ⟨g, c, none⟩ = some v) (hb : Below w.heap.size w w') : w'.cell? ⟨g, c, none⟩ = some v := by
  have hlt : g < w.heap.size := by
    rcases Nat.lt_or_ge g w.heap.size with h1 | h1
    · exact h1
    · simp [World.cell?, Array.getElem?_eq_none h1] at h
  rw [World.cell?_of_block (hb.block g hlt)]
  exact h
theorem stabU8T : Stab U8T := fun w w' h hb => ⟨fun c hc => cell_keep (h.1 c hc) hb, fun i hi => ⟨cell_keep (h.2 i hi).1 hb, cell_keep (h.2 i hi).2 hb⟩⟩
theorem shp_of {W : World} (h : W.ShapedOpen Tryz.prog) : Shp W :=
  cell_of_shapedOpen_int (k := .i64) (t := 3) (zero := #[.int .i64 0]) h (of_decide_eq_true (by kernel_rfl)) (by kernel_rfl) rfl (by kernel_rfl) (by kernel_rfl) Tryz.underlying3
def Env9 (w : World) : Prop := U8T w ∧ Shp w
theorem stabEnv9 : Stab Env9 := fun w w' ⟨a, b⟩ hb => ⟨stabU8T w w' a hb, stabShp w w' b hb⟩
theorem env_of9 {W : World} (h : laidMetH Tryz.prog [("unicode/utf8.acceptRanges", Rows.laid_unicode_utf8_acceptRanges), ("unicode/utf8.first", Rows.laid_unicode_utf8_first)] W) (hs : W.ShapedOpen Tryz.prog) : Env9 W := ⟨u8t_of9 h, shp_of hs⟩
noncomputable def laidWorld9 (os : Os) : World :=
  { (World.holding Tryz.prog os ⟨#[], #[], []⟩) with heap := (((World.holding Tryz.prog os ⟨#[], #[], []⟩).heap.modify 1 (putCells #[.int .u8 128, .int .u8 191, .int .u8 160, .int .u8 191, .int .u8 128, .int .u8 159, .int .u8 144, .int .u8 191, .int .u8 128, .int .u8 143, .int .u8 0, .int .u8 0, .int .u8 0, .int .u8 0, .int .u8 0, .int .u8 0, .int .u8 0, .int .u8 0, .int .u8 0, .int .u8 0, .int .u8 0, .int .u8 0, .int .u8 0, .int .u8 0, .int .u8 0, .int .u8 0, .int .u8 0, .int .u8 0, .int .u8 0, .int .u8 0, .int .u8 0, .int .u8 0])).modify 0 (putCells (Pinned.utf8FirstZ.map fun (z : Nat) => Value.int .u8 (z : Int)).toArray)) }
end Go.Proofs.YtalfcmgcjdkolaaGreatDoor
namespace Go.Proofs.YtalfcmgcjdkolaaGreatDoor
set_option maxRecDepth 100000
def T_api_Span.sz (x : T_api_Span) : Prop := (True) ∧ (True) ∧ True
def T_api_Word.sz (x : T_api_Word) : Prop := (x.Text.length ≤ 1048576) ∧ (T_api_Span.sz x.Span) ∧ True
def T_arr6_Int.sz (x : T_arr6_Int) : Prop := (True) ∧ (True) ∧ (True) ∧ (True) ∧ (True) ∧ (True)
def T_api_Penalties.sz (x : T_api_Penalties) : Prop := (T_arr6_Int.sz x.Strength) ∧ (True) ∧ (True) ∧ (True) ∧ (True) ∧ (True) ∧ (True) ∧ True
def T_api_Profile.sz (x : T_api_Profile) : Prop := (x.Name.length ≤ 1048576) ∧ (True) ∧ (True) ∧ (True) ∧ (True) ∧ (True) ∧ (True) ∧ (True) ∧ (True) ∧ (x.Forbidden.length ≤ 1048576) ∧ (True) ∧ (True) ∧ (True) ∧ (True) ∧ True
def T_api_Speech.sz (x : T_api_Speech) : Prop := (True) ∧ (x.Words.length ≤ 1048576 ∧ ∀ a ∈ x.Words, T_api_Word.sz a) ∧ (x.Shots.length ≤ 1048576 ∧ ∀ a ∈ x.Shots, True) ∧ (T_api_Penalties.sz x.Table) ∧ (T_api_Profile.sz x.House) ∧ True
theorem szs_of {s : T_api_Speech} (h : T_api_Speech.sz s) (hr : 0 ≤ s.Rate ∧ s.Rate ≤ 255) : Szs s :=
  ⟨hr, fun w hw => (h.2.1.2 w hw).1, h.2.2.2.2.1.1, h.2.2.2.2.1.2.2.2.2.2.2.2.2.2.1⟩
theorem speech_rate {ds : List D} {s : T_api_Speech} (h : ∀ d ∈ ds, Sz d) (hm : s.d ∈ ds) : 0 ≤ s.Rate ∧ s.Rate ≤ 255 :=
  Sz_u8.1 (Sz_agg.1 (h _ hm) (.int .u8 s.Rate) (by simp))
theorem law_SegmentParts (s : T_api_Speech) (a b : Int) (hB : T_api_Speech.sz s) : AFun Tryz.prog Env9 3 [s.d, .int .i64 a, .int .i64 b] (.bool true) := by
  refine AFun.sized (by kernel_rfl) fun hz => ?_
  exact a_law38_SegmentParts stabEnv9 (fun _ h => h.2) (fun _ h => h.1) (SegmentParts_true s a b (szs_of hB (speech_rate hz (by simp))))
end Go.Proofs.YtalfcmgcjdkolaaGreatDoor
namespace Go.Proofs.YtalfcmgcjdkolaaGreatDoor
open Go.ChangeShapes Go.WideShapes Go.ChangeAt Go.RowKit Go.Joins
set_option maxRecDepth 100000
def FA (w : World) : Nat → Nat → Prop := fun b _ => b < w.heap.size
theorem FA_fb (w : World) : FB (cF (FA w)) w := fun _ _ h => h
theorem wf_inR {k : IntKind} {n : Int} (h : (Lit.int k n).wf = true) : inR k n := by
  simp only [Lit.wf, Bool.and_eq_true, decide_eq_true_eq] at h
  cases k <;> simp [IntKind.min, IntKind.max, IntKind.signed, IntKind.bits] at h <;> simp [inR, kLo, kHi] <;> omega
theorem strOfBytes (s : ByteArray) : (⟨s.data.toList.toArray⟩ : ByteArray) = s := by cases s; simp
theorem AFun.law {P : Program} {I : World → Prop} {f : FuncId} {ds : List D} (h : AFun P I f ds (.bool true)) {W : World} {args : List Value} (hI : I W) (hl : args.length = ds.length) (hr : ∀ (i : Nat) v d, args[i]? = some v → ds[i]? = some d → Rep W (cF (FA W)) v d) :
    Calls P f args.toArray W fun e w' => e = .returned (.bool true) ∧ Below W.heap.size W w' := by
  refine (h.2 W (FA W) args hI (FA_fb W) hl hr).mono ?_
  rintro e w' ⟨v, F', rfl, hb, _, _, _, hrep⟩
  cases hrep
  exact ⟨rfl, hb⟩
section
variable (H : Type) (enc : TypeId × Value → H) (P : Program)
def OpT {α : Type} (t : TypeId) (δ : α → D) : Prop :=
  ∀ (w : World) (fuel : Nat) (cs : List Value) (x : DataW H × List MemPlace), DataW.trod enc P w 0 (fun _ => true) true fuel t cs = some x → ∃ a : α, RepL (cF (FA w)) w cs (δ a).cells
def OpF {α : Type} (fs : List Field) (off : Nat) (γ : α → List D) : Prop :=
  ∀ (w : World) (fuel : Nat) (cs : List Value), off ≤ cs.length → (∀ f ∈ fs, ∃ x, DataW.trod enc P w 0 (fun _ => true) true fuel f.type ((cs.drop f.offset).take (P.cellsOf f.type)) = some x) → (fs = [] → cs.length = off) → (∀ f ∈ fs, f.offset + P.cellsOf f.type ≤ cs.length) → ((fs.map fun f => P.cellsOf f.type).sum + off = cs.length) → ∃ a : α, RepL (cF (FA w)) w (cs.drop off) (γ a)
end
section
variable {H : Type} {enc : TypeId × Value → H} {P : Program}
theorem OpT.int {t : TypeId} {k : IntKind} (ht : P.underlying t = some (.int k)) : OpT H enc P t (D.int k) := by
  intro w fuel cs x h
  obtain ⟨n, rfl, _, hw⟩ := DataW.trod_int ht h
  exact ⟨n, RepL.one1 rfl (.int _ _ (wf_inR hw))⟩
theorem OpT.bool {t : TypeId} (ht : P.underlying t = some .bool) : OpT H enc P t D.bool := by
  intro w fuel cs x h
  obtain ⟨n, rfl, _⟩ := DataW.trod_bool ht h
  exact ⟨n, RepL.one1 rfl (.bool _)⟩
theorem rep_strB {w : World} {C : Cx} (s : ByteArray) (h : s.size ≤ maxLen) : Rep w C (.string s) (.str s.data.toList) := by
  have := Rep.str (w := w) (C := C) s.data.toList (by rw [Array.length_toList]; exact h)
  rwa [strOfBytes] at this
theorem OpT.str {t : TypeId} (ht : P.underlying t = some .string) : OpT H enc P t D.str := by
  intro w fuel cs x h
  obtain ⟨s, rfl, _, hs⟩ := DataW.trod_string ht h
  exact ⟨s.data.toList, RepL.one1 rfl (rep_strB s hs)⟩
theorem OpT.map {α β : Type} {t : TypeId} {δ : α → D} {ε : β → D} (h : OpT H enc P t δ) (φ : α → β) (hφ : ∀ a, ε (φ a) = δ a) : OpT H enc P t ε := by
  intro w fuel cs x hx
  obtain ⟨a, ha⟩ := h w fuel cs x hx
  exact ⟨φ a, by rw [hφ]; exact ha⟩
theorem OpF.nil {off : Nat} : OpF H enc P [] off (fun _ : Unit => []) := by
  intro w fuel cs h1 h2 h3 h4 h5
  refine ⟨(), ?_⟩
  rw [List.drop_eq_nil_of_le (by have := h3 rfl; omega)]
  exact RepL.nil
theorem OpF.cons {α β : Type} {f : Field} {fs : List Field} {off : Nat} {δ : α → D} {γ : β → List D} (ho : f.offset = off) (h : OpT H enc P f.type δ) (hr : OpF H enc P fs (off + P.cellsOf f.type) γ) : OpF H enc P (f :: fs) off (fun p : α × β => (δ p.1).cells ++ γ p.2) := by
  intro w fuel cs h1 h2 h3 h4 h5
  subst ho
  obtain ⟨x, hx⟩ := h2 f (by simp)
  obtain ⟨a, ha⟩ := h w fuel _ x hx
  have hlen : f.offset + P.cellsOf f.type ≤ cs.length := h4 f (by simp)
  simp only [List.map_cons, List.sum_cons] at h5
  obtain ⟨b, hb⟩ := hr w fuel cs hlen (fun g hg => h2 g (by simp [hg])) (fun e => by subst e; simp at h5; omega) (fun g hg => h4 g (by simp [hg])) (by omega)
  refine ⟨(a, b), ?_⟩
  have := ha.append hb
  rw [show (cs.drop f.offset).take (P.cellsOf f.type) ++ cs.drop (f.offset + P.cellsOf f.type) = cs.drop f.offset by rw [← List.drop_drop]; exact List.take_append_drop _ _] at this
  exact this
theorem OpT.struct {α β : Type} {t : TypeId} {fs : Array Field} {γ : α → List D} {ε : β → D} (ht : P.underlying t = some (.struct fs)) (hoff : (fs.toList.all fun f => decide (f.offset + P.cellsOf f.type ≤ P.cellsOf t)) = true) (hsum : (fs.toList.map fun f => P.cellsOf f.type).sum = P.cellsOf t) (h : OpF H enc P fs.toList 0 γ) (φ : α → β) (hφ : ∀ a, (ε (φ a)).cells = γ a) : OpT H enc P t ε := by
  intro w fuel cs x hx
  obtain ⟨xs, n, _, _, hl, hxl, hf⟩ := DataW.trod_struct ht hx
  obtain ⟨a, ha⟩ := h w n cs (Nat.zero_le _) (fun f hf' => by
    obtain ⟨i, hi, rfl⟩ := List.getElem_of_mem hf'
    have hi' : fs[i]? = some fs.toList[i] := by simp at hi ⊢
    have := hf i _ hi'
    rw [List.getElem?_eq_getElem (by rw [hxl]; simpa using hi)] at this
    exact ⟨_, this⟩) (fun e => by rw [e] at hsum; simp at hsum; omega) (fun f hf' => by have := List.all_eq_true.1 hoff f hf'; simp at this; omega) (by omega)
  refine ⟨φ a, ?_⟩
  rw [hφ]
  simpa using ha
theorem addr_addO (b o i : Nat) : (⟨b, o, none⟩ : Addr).add i = ⟨b, o + i, none⟩ := by
  unfold Addr.add
  split
  · rename_i e; subst e; rfl
  · rfl
theorem rows_of {w : World} {b off k : Nat} {α : Type} {δ : α → D} (hk : ∀ a, (δ a).cells.length = k) : ∀ (n : Nat) (s : Nat), (∀ i, i < n → ∃ cs', (∀ j, j < k → w.cell? ⟨b, off + (s + i) * k + j, none⟩ = cs'[j]?) ∧ cs'.length = k ∧ ∃ a : α, RepL (cF (FA w)) w cs' (δ a).cells) →
    ∃ (l : List α) (vals : List Value), l.length = n ∧ vals.length = n * k ∧ RepL (cF (FA w)) w vals ((l.map δ).flatMap D.cells) ∧ ∀ (i : Nat) v, vals[i]? = some v → w.cell? ⟨b, off + s * k + i, none⟩ = some v := by
  intro n
  induction n with
  | zero => intro s _; exact ⟨[], [], rfl, by simp, RepL.nil, by simp⟩
  | succ n ih =>
    intro s h
    obtain ⟨cs, hc, hcl, a, ha⟩ := h 0 (by omega)
    obtain ⟨l, vals, h1, h2, h3, h4⟩ := ih (s + 1) (fun i hi => by
      obtain ⟨cs', hh⟩ := h (i + 1) (by omega)
      refine ⟨cs', ?_⟩
      rw [show s + 1 + i = s + (i + 1) by omega]
      exact hh)
    refine ⟨a :: l, cs ++ vals, by simp [h1], by rw [List.length_append, hcl, h2, Nat.add_mul]; omega, ?_, ?_⟩
    · simp only [List.map_cons, List.flatMap_cons]
      exact ha.append h3
    · intro i v hv
      by_cases hi : i < k
      · rw [List.getElem?_append_left (by omega)] at hv
        have := hc i hi
        rw [Nat.add_zero] at this
        rw [this, hv]
      · rw [List.getElem?_append_right (by omega)] at hv
        have := h4 _ v hv
        rw [hcl] at this
        rw [← this]
        congr 2
        rw [Nat.add_mul]
        omega
theorem OpT.slice {α : Type} {t e : TypeId} {δ : α → D} (ht : P.underlying t = some (.slice e)) (hpos : 0 < P.cellsOf e) (hk : ∀ a, (δ a).cells.length = P.cellsOf e) (h : OpT H enc P e δ) : OpT H enc P t (fun l : List α => D.sl (l.map δ)) := by
  intro w fuel cs x hx
  rcases Deep.open_slice ht hx with ⟨rfl, _⟩ | ⟨a, len, cap, m, n, Dd, Pl, rfl, hb, hl, hm, hmm, _, hel⟩
  · exact ⟨[], RepL.one1 rfl (.sl0 _ _ (Nat.zero_le _))⟩
  · simp only [if_true] at hmm
    subst hmm
    by_cases h0 : len = 0
    · subst h0
      exact ⟨[], RepL.one1 rfl (.sl0 _ _ hm)⟩
    · obtain ⟨b, off, spot⟩ := a
      obtain ⟨c0, hc0, _⟩ := hel 0 (by omega)
      obtain ⟨_, hl0, hg0⟩ := World.cells?_some hc0
      have hcell0 := hg0 0 hpos
      have hx0 : c0[0]? = some (c0[0]'(by omega)) := List.getElem?_eq_getElem _
      rw [hx0] at hcell0
      have hspot : spot = none := by simpa [Addr.add] using World.cell?_spot hcell0
      subst hspot
      have hbl : b < w.heap.size := by
        rcases Nat.lt_or_ge b w.heap.size with h1 | h1
        · exact h1
        · simp [Addr.add, World.cell?, Array.getElem?_eq_none h1] at hcell0
      obtain ⟨l, vals, h1, h2, h3, h4⟩ := rows_of (w := w) (b := b) (off := off) (k := P.cellsOf e) hk len 0 (fun i hi => by
        obtain ⟨cs', hc', ht'⟩ := hel i (by omega)
        obtain ⟨_, hl', hg'⟩ := World.cells?_some hc'
        refine ⟨cs', fun j hj => ?_, hl', h w n cs' _ ht'⟩
        have := hg' j hj
        rw [addr_addO, addr_addO] at this
        rw [← this]
        simp)
      refine ⟨l, RepL.one1 rfl ?_⟩
      have hkk : ∀ x ∈ l.map δ, x.cells.length = P.cellsOf e := fun x hx => by obtain ⟨y, _, rfl⟩ := List.mem_map.1 hx; exact hk y
      have := Rep.sl (w := w) (C := cF (FA w)) b off (P.cellsOf e) m (l.map δ) vals (by simp [h1]; omega) hm hkk h3.len h3.one (fun _ _ => hbl) (fun i v hv => by have := h4 i v hv; simpa using this) (fun i v d hv hd => h3.rep i v d hv hd)
      rw [List.length_map, h1] at this
      exact this
theorem arr_rows {α : Type} {e : TypeId} {δ : α → D} (h : OpT H enc P e δ) (w : World) (fuel : Nat) (cs : List Value) (k : Nat) : ∀ (n s : Nat), (∀ i, s ≤ i → i < s + n → ∃ x, DataW.trod enc P w 0 (fun _ => true) true fuel e ((cs.drop (i * k)).take k) = some x) → cs.length = (s + n) * k →
    ∃ l : List α, l.length = n ∧ RepL (cF (FA w)) w (cs.drop (s * k)) (l.flatMap fun a => (δ a).cells) := by
  intro n
  induction n with
  | zero => intro s _ hl; exact ⟨[], rfl, by rw [List.drop_eq_nil_of_le (by rw [hl]; exact Nat.le_refl _)]; exact RepL.nil⟩
  | succ n ih =>
    intro s hx hl
    obtain ⟨x, hx0⟩ := hx s (by omega) (by omega)
    obtain ⟨a, ha⟩ := h w fuel _ x hx0
    obtain ⟨l, hll, hr⟩ := ih (s + 1) (fun i h1 h2 => hx i (by omega) (by omega)) (by rw [hl]; congr 1; omega)
    refine ⟨a :: l, by simp [hll], ?_⟩
    have := ha.append hr
    rw [show (cs.drop (s * k)).take k ++ cs.drop ((s + 1) * k) = cs.drop (s * k) by rw [show (s + 1) * k = s * k + k by rw [Nat.add_mul]; omega, ← List.drop_drop]; exact List.take_append_drop _ _] at this
    exact this
theorem OpT.array {α β : Type} {t e : TypeId} {n : Nat} {δ : α → D} {ε : β → D} (ht : P.underlying t = some (.array n e)) (hc : P.cellsOf t = n * P.cellsOf e) (h : OpT H enc P e δ) (φ : (l : List α) → l.length = n → β) (hφ : ∀ l h, (ε (φ l h)).cells = l.flatMap fun a => (δ a).cells) : OpT H enc P t ε := by
  intro w fuel cs x hx
  obtain ⟨xs, m, _, _, hl, hxl, hf⟩ := DataW.trod_array ht hx
  obtain ⟨l, hll, hr⟩ := arr_rows h w m cs (P.cellsOf e) n 0 (fun i _ hi => by
    have := hf i (by omega)
    rw [List.getElem?_eq_getElem (by omega)] at this
    exact ⟨_, this⟩) (by rw [hl, hc, Nat.zero_add])
  refine ⟨φ l hll, ?_⟩
  rw [hφ]
  simpa using hr
theorem OpT.arg1 {α : Type} {t : TypeId} {δ : α → D} (h : OpT H enc P t δ) {w : World} {v : Value} {d : DataW H} {p : List MemPlace} (hv : v.cells = #[v]) (hδ : ∀ a, (δ a).cells = [δ a]) (ht : DataW.Trod enc P w 0 (fun _ => true) true t v d p) : ∃ a, Rep w (cF (FA w)) v (δ a) := by
  obtain ⟨fuel, hf⟩ := ht
  obtain ⟨a, ha⟩ := h w fuel _ _ hf
  refine ⟨a, ?_⟩
  rw [hv, hδ] at ha
  exact ha.rep 0 v (δ a) rfl rfl
theorem OpT.argS {α : Type} {t : TypeId} {δ : α → D} {cs : Array Value} (h : OpT H enc P t δ) {w : World} {d : DataW H} {p : List MemPlace} (hδ : ∀ a, ∃ ds, δ a = .agg ds) (ht : DataW.Trod enc P w 0 (fun _ => true) true t (.agg cs) d p) : ∃ a, Rep w (cF (FA w)) (.agg cs) (δ a) := by
  obtain ⟨fuel, hf⟩ := ht
  obtain ⟨a, ha⟩ := h w fuel _ _ hf
  refine ⟨a, ?_⟩
  obtain ⟨ds, hd⟩ := hδ a
  rw [hd] at ha ⊢
  have := ha.agg
  simpa [Value.cells, D.cells] using this
theorem OpT.argInt {α : Type} {t : TypeId} {k : IntKind} {δ : α → D} (ht : P.underlying t = some (.int k)) (h : OpT H enc P t δ) (hδ : ∀ a, (δ a).cells = [δ a]) {w : World} {r : Reach} {b0 : Nat} {v : Value} {d : DataW H} {p : List MemPlace} (hv : Value.okWide P w r b0 t v) (hd : DataW.Trod enc P w 0 (fun _ => true) true t v d p) : ∃ a, Rep w (cF (FA w)) v (δ a) := by
  obtain ⟨n, rfl⟩ := okWide_int ht hv
  exact h.arg1 rfl hδ hd
theorem OpT.argStruct {α : Type} {t : TypeId} {fs : Array Field} {δ : α → D} (ht : P.underlying t = some (.struct fs)) (h : OpT H enc P t δ) (hδ : ∀ a, ∃ ds, δ a = .agg ds) {w : World} {r : Reach} {b0 : Nat} {v : Value} {d : DataW H} {p : List MemPlace} (hv : Value.okWide P w r b0 t v) (hd : DataW.Trod enc P w 0 (fun _ => true) true t v d p) : ∃ a, Rep w (cF (FA w)) v (δ a) := by
  obtain ⟨_, rfl, _⟩ := okWide_struct ht hv
  exact h.argS hδ hd
end
end Go.Proofs.YtalfcmgcjdkolaaGreatDoor
namespace Go.Proofs.YtalfcmgcjdkolaaGreatDoor
open Go.ChangeShapes Go.WideShapes Go.ChangeAt Go.RowKit Go.Joins
set_option maxRecDepth 100000
theorem bulk_pos {H : Type} (d : DataW H) : 1 ≤ Rows.uptoBulk d := by
  cases d with
  | lit l => cases l <;> simp [Rows.uptoBulk]
  | _ => simp [Rows.uptoBulk]
theorem bulk_mem {H : Type} : ∀ {l : List (DataW H)} {d : DataW H}, d ∈ l → Rows.uptoBulk d ≤ Rows.uptoBulkAll l
  | a :: l, d, h => by
    unfold Rows.uptoBulkAll
    rcases List.mem_cons.1 h with rfl | h
    · omega
    · have := bulk_mem h; omega
theorem bulk_len {H : Type} : ∀ (l : List (DataW H)), l.length ≤ Rows.uptoBulkAll l
  | [] => by simp [Rows.uptoBulkAll]
  | a :: l => by
    unfold Rows.uptoBulkAll
    have := bulk_pos a; have := bulk_len l
    simp only [List.length_cons]; omega
section
variable (H : Type) (enc : TypeId × Value → H) (P : Program) (n : Nat)
def OpTB {α : Type} (t : TypeId) (δ : α → D) (B : α → Prop) : Prop :=
  ∀ (w : World) (fuel : Nat) (cs : List Value) (x : DataW H × List MemPlace), DataW.trod enc P w 0 (fun _ => true) true fuel t cs = some x → Rows.uptoBulk x.1 ≤ n → ∃ a : α, RepL (cF (FA w)) w cs (δ a).cells ∧ B a
def OpFB {α : Type} (fs : List Field) (off : Nat) (γ : α → List D) (B : α → Prop) : Prop :=
  ∀ (w : World) (fuel : Nat) (cs : List Value), off ≤ cs.length → (∀ f ∈ fs, ∃ x : DataW H × List MemPlace, DataW.trod enc P w 0 (fun _ => true) true fuel f.type ((cs.drop f.offset).take (P.cellsOf f.type)) = some x ∧ Rows.uptoBulk x.1 ≤ n) → (fs = [] → cs.length = off) → (∀ f ∈ fs, f.offset + P.cellsOf f.type ≤ cs.length) → ((fs.map fun f => P.cellsOf f.type).sum + off = cs.length) → ∃ a : α, RepL (cF (FA w)) w (cs.drop off) (γ a) ∧ B a
end
section
variable {H : Type} {enc : TypeId × Value → H} {P : Program} {n : Nat}
theorem OpTB.int {t : TypeId} {k : IntKind} (ht : P.underlying t = some (.int k)) : OpTB H enc P n t (D.int k) (fun _ => True) := by
  intro w fuel cs x h _
  obtain ⟨a, ha⟩ := OpT.int ht w fuel cs x h
  exact ⟨a, ha, trivial⟩
theorem OpTB.bool {t : TypeId} (ht : P.underlying t = some .bool) : OpTB H enc P n t D.bool (fun _ => True) := by
  intro w fuel cs x h _
  obtain ⟨a, ha⟩ := OpT.bool ht w fuel cs x h
  exact ⟨a, ha, trivial⟩
theorem OpTB.str {t : TypeId} (ht : P.underlying t = some .string) : OpTB H enc P n t D.str (fun s => s.length ≤ n) := by
  intro w fuel cs x h hn
  obtain ⟨s, rfl, rfl, hs⟩ := DataW.trod_string ht h
  refine ⟨s.data.toList, RepL.one1 rfl (rep_strB s hs), ?_⟩
  simp only [Rows.uptoBulk] at hn
  omega
theorem OpFB.nil {off : Nat} : OpFB H enc P n [] off (fun _ : Unit => []) (fun _ => True) := by
  intro w fuel cs h1 h2 h3 h4 h5
  refine ⟨(), ?_, trivial⟩
  rw [List.drop_eq_nil_of_le (by have := h3 rfl; omega)]
  exact RepL.nil
theorem OpFB.cons {α β : Type} {f : Field} {fs : List Field} {off : Nat} {δ : α → D} {γ : β → List D} {A : α → Prop} {B : β → Prop} (ho : f.offset = off) (h : OpTB H enc P n f.type δ A) (hr : OpFB H enc P n fs (off + P.cellsOf f.type) γ B) : OpFB H enc P n (f :: fs) off (fun p : α × β => (δ p.1).cells ++ γ p.2) (fun p => A p.1 ∧ B p.2) := by
  intro w fuel cs h1 h2 h3 h4 h5
  subst ho
  obtain ⟨x, hx, hxn⟩ := h2 f (by simp)
  obtain ⟨a, ha, hA⟩ := h w fuel _ x hx hxn
  have hlen : f.offset + P.cellsOf f.type ≤ cs.length := h4 f (by simp)
  simp only [List.map_cons, List.sum_cons] at h5
  obtain ⟨b, hb, hB⟩ := hr w fuel cs hlen (fun g hg => h2 g (by simp [hg])) (fun e => by subst e; simp at h5; omega) (fun g hg => h4 g (by simp [hg])) (by omega)
  refine ⟨(a, b), ?_, hA, hB⟩
  have := ha.append hb
  rw [show (cs.drop f.offset).take (P.cellsOf f.type) ++ cs.drop (f.offset + P.cellsOf f.type) = cs.drop f.offset by rw [← List.drop_drop]; exact List.take_append_drop _ _] at this
  exact this
theorem OpTB.struct {α β : Type} {t : TypeId} {fs : Array Field} {γ : α → List D} {ε : β → D} {A : α → Prop} {B : β → Prop} (ht : P.underlying t = some (.struct fs)) (hoff : (fs.toList.all fun f => decide (f.offset + P.cellsOf f.type ≤ P.cellsOf t)) = true) (hsum : (fs.toList.map fun f => P.cellsOf f.type).sum = P.cellsOf t) (h : OpFB H enc P n fs.toList 0 γ A) (φ : α → β) (hφ : ∀ a, (ε (φ a)).cells = γ a) (hB : ∀ a, A a → B (φ a)) : OpTB H enc P n t ε B := by
  intro w fuel cs x hx hn
  obtain ⟨xs, m, _, rfl, hl, hxl, hf⟩ := DataW.trod_struct ht hx
  obtain ⟨a, ha, hA⟩ := h w m cs (Nat.zero_le _) (fun f hf' => by
    obtain ⟨i, hi, rfl⟩ := List.getElem_of_mem hf'
    have hi' : fs[i]? = some fs.toList[i] := by simp at hi ⊢
    have := hf i _ hi'
    have hix : i < xs.length := by rw [hxl]; simpa using hi
    rw [List.getElem?_eq_getElem hix] at this
    refine ⟨_, this, ?_⟩
    have h1 := bulk_mem (List.mem_map_of_mem (f := (·.1)) (List.getElem_mem hix))
    simp only [Rows.uptoBulk] at hn
    omega) (fun e => by rw [e] at hsum; simp at hsum; omega) (fun f hf' => by have := List.all_eq_true.1 hoff f hf'; simp at this; omega) (by omega)
  refine ⟨φ a, ?_, hB a hA⟩
  rw [hφ]
  simpa using ha
theorem OpTB.slice {α : Type} {t e : TypeId} {δ : α → D} {A : α → Prop} (ht : P.underlying t = some (.slice e)) (hpos : 0 < P.cellsOf e) (hk : ∀ a, (δ a).cells.length = P.cellsOf e) (h : OpTB H enc P n e δ A) : OpTB H enc P n t (fun l : List α => D.sl (l.map δ)) (fun l => l.length ≤ n ∧ ∀ a ∈ l, A a) := by
  intro w fuel cs x hx hn
  rcases Deep.open_slice ht hx with ⟨rfl, _⟩ | ⟨a, len, cap, m, f, Dd, Pl, rfl, hb, hl, hm, hmm, rfl, hel⟩
  · exact ⟨[], RepL.one1 rfl (.sl0 _ _ (Nat.zero_le _)), by simp, by simp⟩
  · simp only [if_true] at hmm
    subst hmm
    by_cases h0 : len = 0
    · subst h0
      exact ⟨[], RepL.one1 rfl (.sl0 _ _ hm), by simp, by simp⟩
    · obtain ⟨b, off, spot⟩ := a
      obtain ⟨c0, hc0, _⟩ := hel 0 (by omega)
      obtain ⟨_, hl0, hg0⟩ := World.cells?_some hc0
      have hcell0 := hg0 0 hpos
      have hx0 : c0[0]? = some (c0[0]'(by omega)) := List.getElem?_eq_getElem _
      rw [hx0] at hcell0
      have hspot : spot = none := by simpa [Addr.add] using World.cell?_spot hcell0
      subst hspot
      have hbl : b < w.heap.size := by
        rcases Nat.lt_or_ge b w.heap.size with h1 | h1
        · exact h1
        · simp [Addr.add, World.cell?, Array.getElem?_eq_none h1] at hcell0
      simp only [Rows.uptoBulk] at hn
      have hln := bulk_len ((List.range len).map Dd)
      rw [List.length_map, List.length_range] at hln
      obtain ⟨l, vals, h1, h2, h3, h4⟩ := rows_of (w := w) (b := b) (off := off) (k := P.cellsOf e) (α := { a : α // A a }) (δ := fun a => δ a.1) (fun a => hk a.1) len 0 (fun i hi => by
        obtain ⟨cs', hc', ht'⟩ := hel i (by omega)
        obtain ⟨_, hl', hg'⟩ := World.cells?_some hc'
        refine ⟨cs', fun j hj => ?_, hl', ?_⟩
        · have := hg' j hj
          rw [addr_addO, addr_addO] at this
          rw [← this]
          simp
        · have hmem : Dd i ∈ (List.range len).map Dd := List.mem_map_of_mem (List.mem_range.2 hi)
          have := bulk_mem hmem
          obtain ⟨a, ha, hA⟩ := h w f cs' _ ht' (by dsimp only; omega)
          exact ⟨⟨a, hA⟩, ha⟩)
      have hmap : l.map (fun a => δ a.1) = (l.map (·.1)).map δ := by rw [List.map_map]; rfl
      rw [hmap] at h3
      refine ⟨l.map (·.1), RepL.one1 rfl ?_, by rw [List.length_map, h1]; omega, fun a ha => ?_⟩
      · have hkk : ∀ x ∈ (l.map (·.1)).map δ, x.cells.length = P.cellsOf e := fun x hx => by obtain ⟨y, _, rfl⟩ := List.mem_map.1 hx; exact hk y
        have := Rep.sl (w := w) (C := cF (FA w)) b off (P.cellsOf e) m ((l.map (·.1)).map δ) vals (by simp [h1]; omega) hm hkk h3.len h3.one (fun _ _ => hbl) (fun i v hv => by have := h4 i v hv; simpa using this) (fun i v d hv hd => h3.rep i v d hv hd)
        rw [List.length_map, List.length_map, h1] at this
        exact this
      · obtain ⟨y, _, rfl⟩ := List.mem_map.1 ha
        exact y.2
theorem arr_rowsB {α : Type} {e : TypeId} {δ : α → D} {A : α → Prop} (h : OpTB H enc P n e δ A) (w : World) (fuel : Nat) (cs : List Value) (k : Nat) : ∀ (m s : Nat), (∀ i, s ≤ i → i < s + m → ∃ x : DataW H × List MemPlace, DataW.trod enc P w 0 (fun _ => true) true fuel e ((cs.drop (i * k)).take k) = some x ∧ Rows.uptoBulk x.1 ≤ n) → cs.length = (s + m) * k →
    ∃ l : List α, l.length = m ∧ RepL (cF (FA w)) w (cs.drop (s * k)) (l.flatMap fun a => (δ a).cells) ∧ ∀ a ∈ l, A a := by
  intro m
  induction m with
  | zero => intro s _ hl; exact ⟨[], rfl, by rw [List.drop_eq_nil_of_le (by rw [hl]; exact Nat.le_refl _)]; exact RepL.nil, by simp⟩
  | succ m ih =>
    intro s hx hl
    obtain ⟨x, hx0, hxn⟩ := hx s (by omega) (by omega)
    obtain ⟨a, ha, hA⟩ := h w fuel _ x hx0 hxn
    obtain ⟨l, hll, hr, hAl⟩ := ih (s + 1) (fun i h1 h2 => hx i (by omega) (by omega)) (by rw [hl]; congr 1; omega)
    refine ⟨a :: l, by simp [hll], ?_, fun b hb => by
      rcases List.mem_cons.1 hb with rfl | hb
      · exact hA
      · exact hAl b hb⟩
    have := ha.append hr
    rw [show (cs.drop (s * k)).take k ++ cs.drop ((s + 1) * k) = cs.drop (s * k) by rw [show (s + 1) * k = s * k + k by rw [Nat.add_mul]; omega, ← List.drop_drop]; exact List.take_append_drop _ _] at this
    exact this
theorem OpTB.array {α β : Type} {t e : TypeId} {m : Nat} {δ : α → D} {ε : β → D} {A : α → Prop} {B : β → Prop} (ht : P.underlying t = some (.array m e)) (hc : P.cellsOf t = m * P.cellsOf e) (h : OpTB H enc P n e δ A) (φ : (l : List α) → l.length = m → β) (hφ : ∀ l h, (ε (φ l h)).cells = l.flatMap fun a => (δ a).cells) (hB : ∀ l h, (∀ a ∈ l, A a) → B (φ l h)) : OpTB H enc P n t ε B := by
  intro w fuel cs x hx hn
  obtain ⟨xs, k, _, rfl, hl, hxl, hf⟩ := DataW.trod_array ht hx
  obtain ⟨l, hll, hr, hA⟩ := arr_rowsB h w k cs (P.cellsOf e) m 0 (fun i _ hi => by
    have := hf i (by omega)
    rw [List.getElem?_eq_getElem (by omega)] at this
    refine ⟨_, this, ?_⟩
    have h1 := bulk_mem (List.mem_map_of_mem (f := (·.1)) (List.getElem_mem (l := xs) (n := i) (by omega)))
    simp only [Rows.uptoBulk] at hn
    omega) (by rw [hl, hc, Nat.zero_add])
  refine ⟨φ l hll, ?_, hB l hll hA⟩
  rw [hφ]
  simpa using hr
theorem OpTB.argStruct {α : Type} {t : TypeId} {fs : Array Field} {δ : α → D} {B : α → Prop} (ht : P.underlying t = some (.struct fs)) (h : OpTB H enc P n t δ B) (hδ : ∀ a, ∃ ds, δ a = .agg ds) {w : World} {r : Reach} {b0 : Nat} {v : Value} {d : DataW H} {p : List MemPlace} (hv : Value.okWide P w r b0 t v) (hd : DataW.Trod enc P w 0 (fun _ => true) true t v d p) (hn : Rows.uptoBulk d ≤ n) : ∃ a, Rep w (cF (FA w)) v (δ a) ∧ B a := by
  obtain ⟨cs, rfl, _⟩ := okWide_struct ht hv
  obtain ⟨fuel, hf⟩ := hd
  obtain ⟨a, ha, hB⟩ := h w fuel _ _ hf hn
  refine ⟨a, ?_, hB⟩
  obtain ⟨ds, hd⟩ := hδ a
  rw [hd] at ha ⊢
  have := ha.agg
  simpa [Value.cells, D.cells] using this
end
end Go.Proofs.YtalfcmgcjdkolaaGreatDoor
