/- Texts of one proof, put together (S5, S4, S6, S7, S8, S9, S10, S11, S12, S13, S14, S15, S16, Laid9, LSa, LSb, Opn, OpnB). No condition but those that each theorem states. -/
import Derived.Test.YtalfcmgcjdkolaaGreatDoorW5
import Derived.Test.YtalfcmgcjdkolaaGreatDoorCards
import Derived.Test.YtalfcmgcjdkolaaGreatDoorTie
import Derived.ProofKit
import Derived.OpenShut
import Derived.Deep.DeepHandedRow
import Derived.Lib.LaidIn
import Derived.Lib.LaidU8T
import Derived.Shelf.Vars
import Derived.Lib.SmallJoins
import Derived.Deep.Slices
import Derived.Deep.Fields
import Derived.Test.YtalfcmgcjdkolaaGreatDoorRows
set_option linter.unusedSimpArgs false
set_option linter.unusedVariables false
namespace Go.Proofs.YtalfcmgcjdkolaaGreatDoor
set_option maxRecDepth 100000
theorem rcF : ∀ (fuel pos : Nat) (s : List UInt8), s.length ≤ pos + fuel → Lib.runeCountFrom ⟨s.toArray⟩ fuel pos = (rnL (s.drop pos)).length
  | 0, pos, s, h => by rw [rnL_end (by omega)]; rfl
  | fuel + 1, pos, s, h => by
    have hsz : (⟨s.toArray⟩ : ByteArray).size = s.length := bsize s
    unfold Lib.runeCountFrom
    rw [hsz]
    by_cases hp : pos < s.length
    · rw [if_pos hp, decL_eq s pos hp, rnL_at hp]
      have hw := wd_pos hp
      have := rcF fuel (pos + widthAt s pos) s (by omega)
      unfold widthAt at this
      rw [this, List.length_cons]
      unfold widthAt
      omega
    · rw [if_neg hp, rnL_end (by omega)]; rfl
theorem rcL (s : List UInt8) : Lib.runeCountL s = (rnL s).length := by
  unfold Lib.runeCountL Lib.runeCount
  rw [rcF _ 0 s (by rw [bsize]; omega), List.drop_zero]
def chL (s : List UInt8) : Int := if gv s then ((rnL s).length : Int) else -1
theorem len_prog (s : List UInt8) (h : s.length ≤ 1048576) : g_charset_Len s = some (chL s) := by
  unfold g_charset_Len chL
  rw [prog_Valid_eq s (by omega)]
  simp only [Option.bind_some, g_unicode_utf8_RuneCountInString]
  cases gv s
  · rfl
  · simp only [if_true]
    rw [if_pos (show s.length < 9223372036854775807 by omega), rcL]; rfl
theorem len_ref (s : List UInt8) (h : s.length ≤ 1048576) : g_ref08_Len s = some (chL s) := by
  unfold g_ref08_Len chL
  rw [ref_Valid_eq s (by omega), runes_eq s h]
  simp only [Option.bind_some]
  cases gv s <;> rfl
theorem chL_le (s : List UInt8) (h : s.length ≤ 1048576) : -1 ≤ chL s ∧ chL s ≤ 1048576 := by
  unfold chL
  have := rnL_len _ s (Nat.le_refl _)
  split <;> omega
theorem chL_pos {s : List UInt8} (h : gv s = true) (hn : s ≠ []) : 1 ≤ chL s := by
  unfold chL
  rw [if_pos h, rnL_ne hn, List.length_cons]
  omega
def upP (a b : Int) : Int := Int.tdiv (a + b - 1) b
theorem upP_ge {a b : Int} (ha : 1 ≤ a) (hb : 1 ≤ b) : 1 ≤ upP a b ∧ upP a b ≤ a := by
  unfold upP
  rw [Int.tdiv_eq_ediv_of_nonneg (by omega)]
  constructor
  · exact (Int.le_ediv_iff_mul_le (by omega)).2 (by omega)
  · have : (a + b - 1) / b < a + 1 := by
      refine Int.ediv_lt_of_lt_mul (by omega) ?_
      have : (a + 1) * b = a * b + b := by rw [Int.add_mul, Int.one_mul]
      have h2 : a * 1 ≤ a * b := Int.mul_le_mul_of_nonneg_left hb (by omega)
      omega
    omega
def aimS (t w : Int) : Int × Int := if wiB t 1 10000 && wiB w 1 32 then (upP t (upP t w), 0) else (0, 2)
theorem pwithin (n lo hi : Int) : g_penalty_within n lo hi = some (wiB n lo hi) := by
  unfold g_penalty_within wiB
  cases decide (lo ≤ n) <;> simp
theorem rwithin35 (n lo hi : Int) : g_ref35_within n lo hi = some (wiB n lo hi) := by
  unfold g_ref35_within wiB
  cases decide (lo ≤ n) <;> simp
theorem aim_prog (t w : Int) : g_penalty_Aim t w = some (aimS t w) := by
  unfold g_penalty_Aim aimS wiB g_penalty_up
  by_cases h1 : t < 1
  · simp [h1, show ¬ 1 ≤ t from by omega]
  by_cases h2 : 10000 < t
  · simp [h1, h2, show ¬ t ≤ 10000 from by omega]
  by_cases h3 : w < 1
  · simp [h1, h2, h3, show ¬ 1 ≤ w from by omega]
  by_cases h4 : 32 < w
  · simp [h1, h2, h3, h4, show ¬ w ≤ 32 from by omega]
  obtain ⟨a1, a2⟩ := upP_ge (a := t) (b := w) (by omega) (by omega)
  obtain ⟨b1, b2⟩ := upP_ge (a := t) (b := upP t w) (by omega) a1
  have e1 : IntKind.i64.wrap (Int.tdiv (IntKind.i64.wrap (IntKind.i64.wrap (t + w) - 1)) w) = upP t w := by
    rw [wr64 (x := t + w) (by omega), wr64 (x := t + w - 1) (by omega)]
    exact wr64 (by unfold upP at a1 a2; omega)
  have e2 : IntKind.i64.wrap (Int.tdiv (IntKind.i64.wrap (IntKind.i64.wrap (t + upP t w) - 1)) (upP t w)) = upP t (upP t w) := by
    rw [wr64 (x := t + upP t w) (by omega), wr64 (x := t + upP t w - 1) (by omega)]
    exact wr64 (by unfold upP at b1 b2 ⊢; omega)
  have q1 : ¬ w = 0 := by omega
  have q2 : ¬ upP t w = 0 := by omega
  simp only [h1, h2, h3, h4, decide_false, Bool.false_eq_true, if_false, Option.bind_some, q1, not_false_eq_true, if_true, e1, q2, e2, show 1 ≤ t from by omega, show t ≤ 10000 from by omega, show 1 ≤ w from by omega, show w ≤ 32 from by omega, decide_true, Bool.and_self]
theorem aim_ref (t w : Int) : g_ref35_Aim t w = some (aimS t w) := by
  unfold g_ref35_Aim aimS
  rw [rwithin35, rwithin35]
  simp only [Option.bind_some]
  cases h1 : wiB t 1 10000
  · rfl
  cases h2 : wiB w 1 32
  · rfl
  have h1 := wiB_t h1
  have h2 := wiB_t h2
  obtain ⟨a1, a2⟩ := upP_ge (a := t) (b := w) (by omega) (by omega)
  obtain ⟨b1, b2⟩ := upP_ge (a := t) (b := upP t w) (by omega) a1
  have e1 : IntKind.i64.wrap (Int.tdiv (IntKind.i64.wrap (IntKind.i64.wrap (t + w) - 1)) w) = upP t w := by
    rw [wr64 (x := t + w) (by omega), wr64 (x := t + w - 1) (by omega)]
    exact wr64 (by unfold upP at a1 a2; omega)
  have e2 : IntKind.i64.wrap (Int.tdiv (IntKind.i64.wrap (IntKind.i64.wrap (t + upP t w) - 1)) (upP t w)) = upP t (upP t w) := by
    rw [wr64 (x := t + upP t w) (by omega), wr64 (x := t + upP t w - 1) (by omega)]
    exact wr64 (by unfold upP at b1 b2 ⊢; omega)
  have q1 : ¬ w = 0 := by omega
  have q2 : ¬ upP t w = 0 := by omega
  simp only [if_true, Bool.not_true, Bool.false_eq_true, if_false, Option.bind_some, q1, not_false_eq_true, e1, q2, e2, Bool.and_self]
def abD (a b : Int) : Int := if a - b < 0 then b - a else a - b
def stAt (t : A_Penalties) (k : Int) : Int := if k = 0 then t.Sg.a0 else if k = 1 then t.Sg.a1 else if k = 2 then t.Sg.a2 else if k = 3 then t.Sg.a3 else if k = 4 then t.Sg.a4 else if k = 5 then t.Sg.a5 else 0
theorem stAt_le {t : A_Penalties} (h : pcS t = 0) (k : Int) : 0 ≤ stAt t k ∧ stAt t k ≤ 1000000 := by
  have := pcS_0 h
  unfold stAt
  split
  · omega
  split
  · omega
  split
  · omega
  split
  · omega
  split
  · omega
  split
  · omega
  · omega
def rowS (t : A_Penalties) (aim len str : Int) : Int × Int := if pcS t ≠ 0 then (0, pcS t) else if wiB aim 1 32 && (wiB len 1 32 && wiB str (-1) 5) then (t.Row + t.Rgd * abD aim len + stAt t str, 0) else (0, 2)
theorem row_arith {t : A_Penalties} (h : pcS t = 0) {a b : Int} (ha : 1 ≤ a ∧ a ≤ 32) (hb : 1 ≤ b ∧ b ≤ 32) : 0 ≤ t.Rgd * abD a b ∧ t.Rgd * abD a b ≤ 31000000 ∧ 0 ≤ abD a b ∧ abD a b ≤ 31 := by
  have hp := pcS_0 h
  have h0 : 0 ≤ abD a b ∧ abD a b ≤ 31 := by unfold abD; split <;> omega
  have h1 : 0 ≤ t.Rgd * abD a b := Int.mul_nonneg (by omega) h0.1
  have h2 : t.Rgd * abD a b ≤ 1000000 * abD a b := Int.mul_le_mul_of_nonneg_right (by omega) h0.1
  omega
theorem rowS_le (t : A_Penalties) (aim len str : Int) : 0 ≤ (rowS t aim len str).1 ∧ (rowS t aim len str).1 ≤ 33000000 := by
  unfold rowS
  split
  · simp
  · rename_i h
    split
    · rename_i h2
      simp only [Bool.and_eq_true] at h2
      have hp := pcS_0 (by omega : pcS t = 0)
      have := row_arith (by omega : pcS t = 0) (wiB_t h2.1) (wiB_t h2.2.1)
      have := stAt_le (by omega : pcS t = 0) str
      dsimp only
      omega
    · simp
theorem row_prog (t : A_Penalties) (aim len str : Int) : g_penalty_Row t aim len str = some (rowS t aim len str) := by
  unfold g_penalty_Row rowS
  rw [pen_Check, pwithin, pwithin, pwithin]
  simp only [Option.bind_some]
  by_cases h : pcS t = 0
  rotate_left
  · simp [h]
  rw [if_neg (show ¬ (pcS t != 0) = true by simpa using h), if_neg (show ¬ pcS t ≠ 0 by omega)]
  cases h1 : wiB aim 1 32
  · rfl
  cases h2 : wiB len 1 32
  · rfl
  cases h3 : wiB str (-1) 5
  · rfl
  have h1 := wiB_t h1
  have h2 := wiB_t h2
  have h3 := wiB_t h3
  have hp := pcS_0 h
  obtain ⟨m1, m2, m3, m4⟩ := row_arith h h1 h2
  have e0 : (if IntKind.i64.wrap (len - aim) > IntKind.i64.wrap (aim - len) then IntKind.i64.wrap (len - aim) else IntKind.i64.wrap (aim - len)) = abD aim len := by
    rw [wr64 (by omega), wr64 (by omega)]
    unfold abD
    split <;> split <;> omega
  simp only [if_true, Bool.not_true, Bool.false_eq_true, if_false, Option.bind_some, Bool.and_self, e0]
  have w1 := wr64 (x := t.Rgd * abD aim len) (by omega)
  have w2 := wr64 (x := t.Row + t.Rgd * abD aim len) (by omega)
  rw [w1, w2]
  have hzb : 0 ≤ t.Row + t.Rgd * abD aim len ∧ t.Row + t.Rgd * abD aim len ≤ 32000000 := by omega
  generalize t.Row + t.Rgd * abD aim len = z at *
  have hz : ∀ k, 0 ≤ k → k ≤ 1000000 → IntKind.i64.wrap (z + k) = z + k := fun k _ _ => wr64 (by omega)
  have w3 := hz t.Sg.a0 (by omega) (by omega)
  have w4 := hz t.Sg.a1 (by omega) (by omega)
  have w5 := hz t.Sg.a2 (by omega) (by omega)
  have w6 := hz t.Sg.a3 (by omega) (by omega)
  have w7 := hz t.Sg.a4 (by omega) (by omega)
  have w8 := hz t.Sg.a5 (by omega) (by omega)
  rw [w3, w4, w5, w6, w7, w8]
  have hs : str = -1 ∨ str = 0 ∨ str = 1 ∨ str = 2 ∨ str = 3 ∨ str = 4 ∨ str = 5 := by omega
  rcases hs with rfl | rfl | rfl | rfl | rfl | rfl | rfl <;> simp [stAt]
theorem row_ref (t : A_Penalties) (aim len str : Int) : g_ref35_Row t aim len str = some (rowS t aim len str) := by
  unfold g_ref35_Row rowS
  rw [ref_penCheck, pen_Check, rwithin35, rwithin35, rwithin35]
  simp only [Option.bind_some]
  by_cases h : pcS t = 0
  rotate_left
  · simp [h]
  rw [if_neg (show ¬ (pcS t != 0) = true by simpa using h), if_neg (show ¬ pcS t ≠ 0 by omega)]
  cases h1 : wiB aim 1 32
  · rfl
  cases h2 : wiB len 1 32
  · rfl
  cases h3 : wiB str (-1) 5
  · rfl
  have h1 := wiB_t h1
  have h2 := wiB_t h2
  have h3 := wiB_t h3
  have hp := pcS_0 h
  obtain ⟨m1, m2, m3, m4⟩ := row_arith h h1 h2
  simp only [if_true, Bool.not_true, Bool.false_eq_true, if_false, Option.bind_some, Bool.and_self]
  rw [wr64 (x := aim - len) (by omega), wr64 (x := 0 - (aim - len)) (by omega)]
  have fin : ∀ d : Int, d = abD aim len → ∀ o : Option (Int × Int), o = some (t.Row + t.Rgd * abD aim len + stAt t str, 0) → True := fun _ _ _ _ => trivial
  have w1 := wr64 (x := t.Rgd * abD aim len) (by omega)
  have w2 := wr64 (x := t.Row + t.Rgd * abD aim len) (by omega)
  have hs : str = -1 ∨ str = 0 ∨ str = 1 ∨ str = 2 ∨ str = 3 ∨ str = 4 ∨ str = 5 := by omega
  by_cases hd : aim - len < 0
  · have e0 : 0 - (aim - len) = abD aim len := by unfold abD; rw [if_pos hd]; omega
    rw [if_pos (by simpa using hd), e0, w1, w2]
    have hzb : 0 ≤ t.Row + t.Rgd * abD aim len ∧ t.Row + t.Rgd * abD aim len ≤ 32000000 := by omega
    generalize t.Row + t.Rgd * abD aim len = z at *
    have hz : ∀ k, 0 ≤ k → k ≤ 1000000 → IntKind.i64.wrap (z + k) = z + k := fun k _ _ => wr64 (by omega)
    rw [hz t.Sg.a0 (by omega) (by omega), hz t.Sg.a1 (by omega) (by omega), hz t.Sg.a2 (by omega) (by omega), hz t.Sg.a3 (by omega) (by omega), hz t.Sg.a4 (by omega) (by omega), hz t.Sg.a5 (by omega) (by omega)]
    rcases hs with rfl | rfl | rfl | rfl | rfl | rfl | rfl <;> simp [stAt]
  · have e0 : aim - len = abD aim len := by unfold abD; rw [if_neg hd]
    rw [if_neg (by simpa using hd), e0, w1, w2]
    have hzb : 0 ≤ t.Row + t.Rgd * abD aim len ∧ t.Row + t.Rgd * abD aim len ≤ 32000000 := by omega
    generalize t.Row + t.Rgd * abD aim len = z at *
    have hz : ∀ k, 0 ≤ k → k ≤ 1000000 → IntKind.i64.wrap (z + k) = z + k := fun k _ _ => wr64 (by omega)
    rw [hz t.Sg.a0 (by omega) (by omega), hz t.Sg.a1 (by omega) (by omega), hz t.Sg.a2 (by omega) (by omega), hz t.Sg.a3 (by omega) (by omega), hz t.Sg.a4 (by omega) (by omega), hz t.Sg.a5 (by omega) (by omega)]
    rcases hs with rfl | rfl | rfl | rfl | rfl | rfl | rfl <;> simp [stAt]
def okLd (l : A_Load) : Bool := wiB l.Fast 0 5184000 && (wiB l.Gap 0 5184000 && (wiB l.Shots 0 400 && wiB l.Sg 0 5))
def evS (t : A_Penalties) (l : A_Load) : Int × Int := if pcS t ≠ 0 then (0, pcS t) else if okLd l then (t.Event + t.Fast * l.Fast + t.Gap * l.Gap + t.Shot * l.Shots + (if l.Last then 0 else stAt t l.Sg), 0) else (0, 2)
theorem mulb {a b m k : Int} (ha : 0 ≤ a ∧ a ≤ m) (hb : 0 ≤ b ∧ b ≤ k) : 0 ≤ a * b ∧ a * b ≤ m * k := by
  have h1 : 0 ≤ a * b := Int.mul_nonneg ha.1 hb.1
  have h2 : a * b ≤ m * b := Int.mul_le_mul_of_nonneg_right ha.2 hb.1
  have h3 : m * b ≤ m * k := Int.mul_le_mul_of_nonneg_left hb.2 (by omega)
  omega
theorem ev_arith {t : A_Penalties} {l : A_Load} (h : pcS t = 0) (hl : okLd l = true) : (0 ≤ t.Fast * l.Fast ∧ t.Fast * l.Fast ≤ 1000000 * 5184000) ∧ (0 ≤ t.Gap * l.Gap ∧ t.Gap * l.Gap ≤ 1000000 * 5184000) ∧ (0 ≤ t.Shot * l.Shots ∧ t.Shot * l.Shots ≤ 1000000 * 400) := by
  have hp := pcS_0 h
  unfold okLd at hl
  simp only [Bool.and_eq_true] at hl
  have a1 := wiB_t hl.1
  have a2 := wiB_t hl.2.1
  have a3 := wiB_t hl.2.2.1
  exact ⟨mulb (by omega) (by omega), mulb (by omega) (by omega), mulb (by omega) (by omega)⟩
theorem evS_le (t : A_Penalties) (l : A_Load) : 0 ≤ (evS t l).1 ∧ (evS t l).1 ≤ 20000000000000 := by
  unfold evS
  split
  · simp
  · rename_i h
    split
    · rename_i h2
      have hp := pcS_0 (by omega : pcS t = 0)
      have := ev_arith (by omega : pcS t = 0) h2
      have := stAt_le (by omega : pcS t = 0) l.Sg
      dsimp only
      split <;> omega
    · simp
theorem ev_fin {t : A_Penalties} {l : A_Load} (h : pcS t = 0) (hl : okLd l = true) : (if l.Last then (some ((IntKind.i64.wrap ((IntKind.i64.wrap ((IntKind.i64.wrap (t.Event + (IntKind.i64.wrap (t.Fast * l.Fast)))) + (IntKind.i64.wrap (t.Gap * l.Gap)))) + (IntKind.i64.wrap (t.Shot * l.Shots)))), 0)) else (if l.Sg == 0 then (some ((IntKind.i64.wrap ((IntKind.i64.wrap ((IntKind.i64.wrap ((IntKind.i64.wrap (t.Event + (IntKind.i64.wrap (t.Fast * l.Fast)))) + (IntKind.i64.wrap (t.Gap * l.Gap)))) + (IntKind.i64.wrap (t.Shot * l.Shots)))) + t.Sg.a0)), 0)) else (if l.Sg == 1 then (some ((IntKind.i64.wrap ((IntKind.i64.wrap ((IntKind.i64.wrap ((IntKind.i64.wrap (t.Event + (IntKind.i64.wrap (t.Fast * l.Fast)))) + (IntKind.i64.wrap (t.Gap * l.Gap)))) + (IntKind.i64.wrap (t.Shot * l.Shots)))) + t.Sg.a1)), 0)) else (if l.Sg == 2 then (some ((IntKind.i64.wrap ((IntKind.i64.wrap ((IntKind.i64.wrap ((IntKind.i64.wrap (t.Event + (IntKind.i64.wrap (t.Fast * l.Fast)))) + (IntKind.i64.wrap (t.Gap * l.Gap)))) + (IntKind.i64.wrap (t.Shot * l.Shots)))) + t.Sg.a2)), 0)) else (if l.Sg == 3 then (some ((IntKind.i64.wrap ((IntKind.i64.wrap ((IntKind.i64.wrap ((IntKind.i64.wrap (t.Event + (IntKind.i64.wrap (t.Fast * l.Fast)))) + (IntKind.i64.wrap (t.Gap * l.Gap)))) + (IntKind.i64.wrap (t.Shot * l.Shots)))) + t.Sg.a3)), 0)) else (if l.Sg == 4 then (some ((IntKind.i64.wrap ((IntKind.i64.wrap ((IntKind.i64.wrap ((IntKind.i64.wrap (t.Event + (IntKind.i64.wrap (t.Fast * l.Fast)))) + (IntKind.i64.wrap (t.Gap * l.Gap)))) + (IntKind.i64.wrap (t.Shot * l.Shots)))) + t.Sg.a4)), 0)) else (if l.Sg == 5 then (some ((IntKind.i64.wrap ((IntKind.i64.wrap ((IntKind.i64.wrap ((IntKind.i64.wrap (t.Event + (IntKind.i64.wrap (t.Fast * l.Fast)))) + (IntKind.i64.wrap (t.Gap * l.Gap)))) + (IntKind.i64.wrap (t.Shot * l.Shots)))) + t.Sg.a5)), 0)) else none)))))) : Option (Int × Int)) = some (t.Event + t.Fast * l.Fast + t.Gap * l.Gap + t.Shot * l.Shots + (if l.Last then 0 else stAt t l.Sg), 0) := by
  have hp := pcS_0 h
  obtain ⟨m1, m2, m3⟩ := ev_arith h hl
  unfold okLd at hl
  simp only [Bool.and_eq_true] at hl
  have h3 := wiB_t hl.2.2.2
  rw [wr64 (x := t.Fast * l.Fast) (by omega), wr64 (x := t.Gap * l.Gap) (by omega), wr64 (x := t.Shot * l.Shots) (by omega)]
  rw [wr64 (x := t.Event + t.Fast * l.Fast) (by omega), wr64 (x := t.Event + t.Fast * l.Fast + t.Gap * l.Gap) (by omega), wr64 (x := t.Event + t.Fast * l.Fast + t.Gap * l.Gap + t.Shot * l.Shots) (by omega)]
  generalize hzz : t.Event + t.Fast * l.Fast + t.Gap * l.Gap + t.Shot * l.Shots = z
  have hzb : 0 ≤ z ∧ z ≤ 20000000000000 := by omega
  have hz : ∀ k, 0 ≤ k → k ≤ 1000000 → IntKind.i64.wrap (z + k) = z + k := fun k _ _ => wr64 (by omega)
  rw [hz t.Sg.a0 (by omega) (by omega), hz t.Sg.a1 (by omega) (by omega), hz t.Sg.a2 (by omega) (by omega), hz t.Sg.a3 (by omega) (by omega), hz t.Sg.a4 (by omega) (by omega), hz t.Sg.a5 (by omega) (by omega)]
  generalize l.Sg = str at *
  have hs : str = 0 ∨ str = 1 ∨ str = 2 ∨ str = 3 ∨ str = 4 ∨ str = 5 := by omega
  cases l.Last
  · rcases hs with rfl | rfl | rfl | rfl | rfl | rfl <;> simp [stAt]
  · simp
theorem ev_prog (t : A_Penalties) (l : A_Load) : g_penalty_Event t l = some (evS t l) := by
  unfold g_penalty_Event evS
  rw [pen_Check, pwithin, pwithin, pwithin, pwithin]
  simp only [Option.bind_some]
  by_cases h : pcS t = 0
  rotate_left
  · simp [h]
  rw [if_neg (show ¬ (pcS t != 0) = true by simpa using h), if_neg (show ¬ pcS t ≠ 0 by omega)]
  by_cases hl : okLd l = true
  · rw [if_pos hl]
    have hl2 := hl
    unfold okLd at hl2
    simp only [Bool.and_eq_true] at hl2
    simp only [hl2.1, hl2.2.1, hl2.2.2.1, hl2.2.2.2, if_true, Bool.not_true, Bool.false_eq_true, if_false, Option.bind_some]
    exact ev_fin h hl
  · rw [if_neg hl]
    unfold okLd at hl
    cases h1 : wiB l.Fast 0 5184000
    · rfl
    cases h2 : wiB l.Gap 0 5184000
    · rfl
    cases h3 : wiB l.Shots 0 400
    · rfl
    cases h4 : wiB l.Sg 0 5
    · rfl
    exact absurd (by rw [h1, h2, h3, h4]; rfl) hl
theorem opt6 (l : A_Load) : (if (decide (l.Fast < 0)) then (some true) else (if (decide (5184000 < l.Fast)) then (some true) else (if (decide (l.Gap < 0)) then (some true) else (if (decide (5184000 < l.Gap)) then (some true) else (if (decide (l.Shots < 0)) then (some true) else (if (decide (400 < l.Shots)) then (some true) else some (!wiB l.Sg 0 5)))))) : Option Bool) = some (!okLd l) := by
  unfold okLd
  have e : ∀ n lo hi : Int, wiB n lo hi = (!decide (n < lo) && !decide (hi < n)) := fun n lo hi => by
    unfold wiB
    by_cases h1 : n < lo
    · simp [h1, show ¬ lo ≤ n from by omega]
    · by_cases h2 : hi < n
      · simp [h1, h2, show ¬ n ≤ hi from by omega]
      · simp [h1, h2, show lo ≤ n from by omega, show n ≤ hi from by omega]
  rw [e l.Fast, e l.Gap, e l.Shots]
  cases decide (l.Fast < 0) <;> cases decide (5184000 < l.Fast) <;> cases decide (l.Gap < 0) <;> cases decide (5184000 < l.Gap) <;> cases decide (l.Shots < 0) <;> cases decide (400 < l.Shots) <;> rfl
theorem ev_ref (t : A_Penalties) (l : A_Load) : g_ref35_Event t l = some (evS t l) := by
  unfold g_ref35_Event evS
  rw [ref_penCheck, pen_Check, rwithin35]
  simp only [Option.bind_some]
  rw [opt6]
  by_cases h : pcS t = 0
  rotate_left
  · simp [h]
  rw [if_neg (show ¬ (pcS t != 0) = true by simpa using h), if_neg (show ¬ pcS t ≠ 0 by omega)]
  by_cases hl : okLd l = true
  · rw [if_pos hl]
    simp only [hl, Bool.not_true, Bool.false_eq_true, if_false, Option.bind_some]
    exact ev_fin h hl
  · rw [if_neg hl]
    simp [hl]
end Go.Proofs.YtalfcmgcjdkolaaGreatDoor
namespace Go.Proofs.YtalfcmgcjdkolaaGreatDoor
def Lst (P : Int → Prop) (v : Int) : Prop := (v = -1 ∧ ∀ x, ¬ P x) ∨ (0 ≤ v ∧ P v ∧ ∀ x, P x → v ≤ x)
theorem Lst.uniq {P : Int → Prop} {v w : Int} (h : Lst P v) (k : Lst P w) : v = w := by
  rcases h with ⟨h1, h2⟩ | ⟨h1, h2, h3⟩
  · rcases k with ⟨k1, _⟩ | ⟨_, k2, _⟩
    · rw [h1, k1]
    · exact absurd k2 (h2 _)
  · rcases k with ⟨_, k2⟩ | ⟨_, k2, k3⟩
    · exact absurd h2 (k2 _)
    · have := h3 _ k2; have := k3 _ h2; omega
theorem Lst.congr {P Q : Int → Prop} {v : Int} (e : ∀ x, P x ↔ Q x) (h : Lst P v) : Lst Q v := by
  have : P = Q := funext fun x => propext (e x)
  rw [← this]; exact h
theorem Lst.ge {P : Int → Prop} {v : Int} (h : Lst P v) : -1 ≤ v := by
  rcases h with ⟨h1, _⟩ | ⟨h1, _⟩ <;> omega
theorem Lst.mem {P : Int → Prop} {v : Int} (h : Lst P v) (hv : v ≠ -1) : 0 ≤ v ∧ P v ∧ ∀ x, P x → v ≤ x := by
  rcases h with ⟨h1, _⟩ | h
  · exact absurd h1 hv
  · exact h
theorem Lst.has {P : Int → Prop} {v x : Int} (h : Lst P v) (hx : P x) : v ≠ -1 ∧ 0 ≤ v ∧ v ≤ x := by
  rcases h with ⟨_, h2⟩ | ⟨h1, _, h3⟩
  · exact absurd hx (h2 _)
  · exact ⟨by omega, h1, h3 _ hx⟩
theorem Lst.none : Lst (fun _ => False) (-1) := .inl ⟨rfl, fun _ h => h⟩
theorem Lst.join {P Q : Int → Prop} {v w : Int} (h : Lst P v) (k : Lst Q w) : Lst (fun x => P x ∨ Q x) (if w = -1 then v else if v = -1 ∨ w < v then w else v) := by
  by_cases hw : w = -1
  · rw [if_pos hw]
    have kn : ∀ x, ¬ Q x := by
      rcases k with ⟨_, k2⟩ | ⟨k1, _⟩
      · exact k2
      · omega
    exact h.congr fun x => ⟨.inl, fun h => h.elim id fun q => absurd q (kn x)⟩
  · obtain ⟨k1, k2, k3⟩ := k.mem hw
    rw [if_neg hw]
    by_cases hv : v = -1
    · rw [if_pos (.inl hv)]
      have hn : ∀ x, ¬ P x := by
        rcases h with ⟨_, h2⟩ | ⟨h1, _⟩
        · exact h2
        · omega
      exact .inr ⟨k1, .inr k2, fun x hx => hx.elim (fun q => absurd q (hn x)) (k3 x)⟩
    · obtain ⟨h1, h2, h3⟩ := h.mem hv
      by_cases hl : w < v
      · rw [if_pos (.inr hl)]
        exact .inr ⟨k1, .inr k2, fun x hx => hx.elim (fun q => by have := h3 x q; omega) (k3 x)⟩
      · rw [if_neg (by omega)]
        exact .inr ⟨h1, .inl h2, fun x hx => hx.elim (h3 x) (fun q => by have := k3 x q; omega)⟩
theorem Lst.shift {P : Int → Prop} {v c : Int} (h : Lst P v) (hc : 0 ≤ c) : Lst (fun x => ∃ y, P y ∧ x = c + y) (if v = -1 then -1 else c + v) := by
  by_cases hv : v = -1
  · rw [if_pos hv]
    refine .inl ⟨rfl, ?_⟩
    rintro x ⟨y, hy, rfl⟩
    rcases h with ⟨_, h2⟩ | ⟨h1, _⟩
    · exact h2 y hy
    · omega
  · rw [if_neg hv]
    obtain ⟨h1, h2, h3⟩ := h.mem hv
    refine .inr ⟨by omega, ⟨v, h2, rfl⟩, ?_⟩
    rintro x ⟨y, hy, rfl⟩
    have := h3 y hy; omega
section
variable {n : Nat} {fit : Nat → Nat → Bool} {c : Nat → Nat → Int}
variable (n fit c) in
inductive Pth : Nat → Nat → Int → Prop
  | nil : Pth 0 n 0
  | cons {r i j : Nat} {x : Int} : i < j → j ≤ n → fit i j = true → Pth r j x → Pth (r + 1) i (c i j + x)
variable (n fit c) in
def AtM (m i : Nat) (x : Int) : Prop := ∃ r, r ≤ m ∧ Pth n fit c r i x
variable (fit c) in
def Cand (Q : Nat → Int → Prop) (i J : Nat) (x : Int) : Prop := ∃ j y, i < j ∧ j < J ∧ fit i j = true ∧ Q j y ∧ x = c i j + y
theorem cand_start (Q : Nat → Int → Prop) (i : Nat) : Lst (Cand fit c Q i (i + 1)) (-1) :=
  .inl ⟨rfl, fun x ⟨j, y, h1, h2, _⟩ => by omega⟩
theorem cand_step {Q : Nat → Int → Prop} {i J : Nat} {v w : Int} (hi : i < J) (hf : fit i J = true) (hc : 0 ≤ c i J) (h : Lst (Cand fit c Q i J) v) (k : Lst (Q J) w) : Lst (Cand fit c Q i (J + 1)) (if w = -1 then v else if v = -1 ∨ c i J + w < v then c i J + w else v) := by
  have h2 := h.join (k.shift hc)
  have e : (if (if w = -1 then -1 else c i J + w) = -1 then v else if v = -1 ∨ (if w = -1 then -1 else c i J + w) < v then (if w = -1 then -1 else c i J + w) else v) = (if w = -1 then v else if v = -1 ∨ c i J + w < v then c i J + w else v) := by
    by_cases hw : w = -1
    · simp [hw]
    · have := k.ge
      have : ¬ c i J + w = -1 := by omega
      simp [hw, this]
  rw [e] at h2
  refine h2.congr fun x => ⟨?_, ?_⟩
  · rintro (⟨j, y, a1, a2, a3, a4, a5⟩ | ⟨y, a4, a5⟩)
    · exact ⟨j, y, a1, by omega, a3, a4, a5⟩
    · exact ⟨J, y, hi, by omega, hf, a4, a5⟩
  · rintro ⟨j, y, a1, a2, a3, a4, a5⟩
    by_cases hj : j = J
    · subst hj; exact .inr ⟨y, a4, a5⟩
    · exact .inl ⟨j, y, a1, by omega, a3, a4, a5⟩
theorem cand_end {Q : Nat → Int → Prop} {i J : Nat} {v : Int} (hJ : J ≤ n + 1) (hmono : J ≤ n → ∀ k, J ≤ k → k ≤ n → fit i k = false) (h : Lst (Cand fit c Q i J) v) : Lst (Cand fit c Q i (n + 1)) v := by
  refine h.congr fun x => ⟨?_, ?_⟩
  · rintro ⟨j, y, a1, a2, a3, a4, a5⟩
    exact ⟨j, y, a1, by omega, a3, a4, a5⟩
  · rintro ⟨j, y, a1, a2, a3, a4, a5⟩
    refine ⟨j, y, a1, ?_, a3, a4, a5⟩
    rcases Nat.lt_or_ge j J with hlt | hge
    · exact hlt
    · rw [hmono (by omega) j hge (by omega)] at a3; cases a3
theorem pth_zero {i : Nat} {x : Int} : Pth n fit c 0 i x ↔ i = n ∧ x = 0 :=
  ⟨fun h => by cases h; exact ⟨rfl, rfl⟩, fun ⟨h1, h2⟩ => by subst h1 h2; exact .nil⟩
theorem pth_succ {r i : Nat} {x : Int} : Pth n fit c (r + 1) i x ↔ Cand fit c (Pth n fit c r) i (n + 1) x :=
  ⟨fun h => by cases h with | cons a1 a2 a3 a4 => exact ⟨_, _, a1, by omega, a3, a4, rfl⟩, fun ⟨j, y, a1, a2, a3, a4, a5⟩ => by subst a5; exact .cons a1 (by omega) a3 a4⟩
theorem pth_end {r : Nat} {x : Int} (h : Pth n fit c (r + 1) n x) : False := by
  cases h with | cons a1 a2 _ _ => omega
theorem atm_n {m : Nat} {x : Int} : AtM n fit c m n x ↔ x = 0 :=
  ⟨fun ⟨r, _, h⟩ => by cases r with | zero => exact (pth_zero.1 h).2 | succ r => exact (pth_end h).elim, fun h => ⟨0, Nat.zero_le _, pth_zero.2 ⟨rfl, h⟩⟩⟩
theorem atm_zero {i : Nat} {x : Int} (hi : i ≠ n) : ¬ AtM n fit c 0 i x := fun ⟨r, h1, h⟩ => by
  obtain rfl : r = 0 := by omega
  exact hi (pth_zero.1 h).1
theorem atm_succ {m i : Nat} {x : Int} (hi : i ≠ n) : AtM n fit c (m + 1) i x ↔ Cand fit c (AtM n fit c m) i (n + 1) x := by
  constructor
  · rintro ⟨r, h1, h⟩
    cases r with
    | zero => exact absurd (pth_zero.1 h).1 hi
    | succ r =>
      obtain ⟨j, y, a1, a2, a3, a4, a5⟩ := pth_succ.1 h
      exact ⟨j, y, a1, a2, a3, ⟨r, by omega, a4⟩, a5⟩
  · rintro ⟨j, y, a1, a2, a3, ⟨r, h1, a4⟩, a5⟩
    exact ⟨r + 1, by omega, pth_succ.2 ⟨j, y, a1, a2, a3, a4, a5⟩⟩
theorem atm_join {m i : Nat} {v w : Int} (h : Lst (AtM n fit c m i) v) (k : Lst (Pth n fit c (m + 1) i) w) : Lst (AtM n fit c (m + 1) i) (if w = -1 then v else if v = -1 ∨ w < v then w else v) := by
  refine (h.join k).congr fun x => ⟨?_, ?_⟩
  · rintro (⟨r, h1, h⟩ | h)
    · exact ⟨r, by omega, h⟩
    · exact ⟨m + 1, Nat.le_refl _, h⟩
  · rintro ⟨r, h1, h⟩
    by_cases e : r = m + 1
    · subst e; exact .inr h
    · exact .inl ⟨r, by omega, h⟩
theorem atm_0 {i : Nat} {v : Int} (h : Lst (Pth n fit c 0 i) v) : Lst (AtM n fit c 0 i) v := by
  refine h.congr fun x => ⟨fun h => ⟨0, Nat.le_refl _, h⟩, ?_⟩
  rintro ⟨r, h1, h⟩
  obtain rfl : r = 0 := by omega
  exact h
variable {E A : Nat → Nat → Int} {R : Nat}
def OkS (fit : Nat → Nat → Bool) (c : Nat → Nat → Int) (E : Nat → Nat → Int) (r i j : Nat) : Prop := fit i j = true ∧ E r j ≠ -1 ∧ c i j + E r j = E (r + 1) i
variable (n fit c E) in
inductive Gr : Nat → Nat → List Nat → Prop
  | nil : Gr 0 n []
  | cons {r i j : Nat} {L : List Nat} : i < j → j ≤ n → OkS fit c E r i j → (∀ k, i < k → k < j → ¬ OkS fit c E r i k) → Gr r j L → Gr (r + 1) i (j :: L)
theorem first_of {P : Nat → Prop} : ∀ (m i : Nat), (∃ j, i < j ∧ j ≤ i + m ∧ P j) → ∃ j, i < j ∧ j ≤ i + m ∧ P j ∧ ∀ k, i < k → k < j → ¬ P k
  | 0, i, ⟨j, h1, h2, _⟩ => by omega
  | m + 1, i, ⟨j, h1, h2, h3⟩ => by
    by_cases hp : P (i + 1)
    · exact ⟨i + 1, by omega, by omega, hp, fun k _ _ => by omega⟩
    · have hj : j ≠ i + 1 := fun e => hp (e ▸ h3)
      obtain ⟨j', a1, a2, a3, a4⟩ := first_of m (i + 1) ⟨j, by omega, by omega, h3⟩
      refine ⟨j', by omega, by omega, a3, fun k k1 k2 => ?_⟩
      by_cases e : k = i + 1
      · rw [e]; exact hp
      · exact a4 k (by omega) k2
theorem gr_step (hE : ∀ r i, r ≤ R → i ≤ n → Lst (Pth n fit c r i) (E r i)) {r i : Nat} (hr : r + 1 ≤ R) (hi : i ≤ n) (hv : E (r + 1) i ≠ -1) : ∃ j, i < j ∧ j ≤ n ∧ OkS fit c E r i j ∧ ∀ k, i < k → k < j → ¬ OkS fit c E r i k := by
  obtain ⟨_, h2, h3⟩ := (hE (r + 1) i hr hi).mem hv
  obtain ⟨j, y, a1, a2, a3, a4, a5⟩ := pth_succ.1 h2
  have k := (hE r j (by omega) (by omega)).has a4
  have hm := (hE r j (by omega) (by omega)).mem k.1
  have hle := h3 _ (Pth.cons a1 (by omega) a3 hm.2.1)
  have hok : OkS fit c E r i j := ⟨a3, k.1, by have := k.2.2; omega⟩
  obtain ⟨j', b1, b2, b3, b4⟩ := first_of (P := OkS fit c E r i) (n - i) i ⟨j, a1, by omega, hok⟩
  exact ⟨j', b1, by omega, b3, b4⟩
theorem gr_exists (hE : ∀ r i, r ≤ R → i ≤ n → Lst (Pth n fit c r i) (E r i)) : ∀ (r i : Nat), r ≤ R → i ≤ n → E r i ≠ -1 → ∃ L, Gr n fit c E r i L
  | 0, i, hr, hi, hv => by
    have := ((hE 0 i hr hi).mem hv).2.1
    obtain ⟨rfl, _⟩ := pth_zero.1 this
    exact ⟨[], .nil⟩
  | r + 1, i, hr, hi, hv => by
    obtain ⟨j, b1, b2, b3, b4⟩ := gr_step hE hr hi hv
    obtain ⟨L, hL⟩ := gr_exists hE r j (by omega) b2 b3.2.1
    exact ⟨j :: L, .cons b1 b2 b3 b4 hL⟩
theorem gr_len {r i : Nat} {L : List Nat} (h : Gr n fit c E r i L) : L.length = r := by
  induction h with
  | nil => rfl
  | cons _ _ _ _ _ ih => simp [ih]
def Tight (E : Nat → Nat → Int) (r i : Nat) : Prop := E r i ≠ -1 ∧ ∀ s, s < r → E s i = -1 ∨ E r i < E s i
theorem tight_A (hE : ∀ r i, r ≤ R → i ≤ n → Lst (Pth n fit c r i) (E r i)) (hA : ∀ m i, m ≤ R → i ≤ n → Lst (AtM n fit c m i) (A m i)) {r i : Nat} (hr : r ≤ R) (hi : i ≤ n) (ht : Tight E r i) : A r i = E r i := by
  obtain ⟨h1, h2, h3⟩ := (hE r i hr hi).mem ht.1
  refine Lst.uniq (hA r i hr hi) (.inr ⟨h1, ⟨r, Nat.le_refl _, h2⟩, ?_⟩)
  rintro x ⟨s, hs, hx⟩
  by_cases e : s = r
  · subst e; exact h3 x hx
  · have k := (hE s i (by omega) hi).has hx
    rcases ht.2 s (by omega) with q | q
    · exact absurd q k.1
    · have := k.2.2; omega
theorem step_le (hE : ∀ r i, r ≤ R → i ≤ n → Lst (Pth n fit c r i) (E r i)) {r i j : Nat} (hr : r + 1 ≤ R) (hi : i < j) (hj : j ≤ n) (hf : fit i j = true) (hv : E r j ≠ -1) : E (r + 1) i ≠ -1 ∧ E (r + 1) i ≤ c i j + E r j := by
  have hm := (hE r j (by omega) hj).mem hv
  have := (hE (r + 1) i hr (by omega)).has (Pth.cons hi hj hf hm.2.1)
  exact ⟨this.1, this.2.2⟩
theorem tight_cond (hE : ∀ r i, r ≤ R → i ≤ n → Lst (Pth n fit c r i) (E r i)) (hA : ∀ m i, m ≤ R → i ≤ n → Lst (AtM n fit c m i) (A m i)) {r i j : Nat} (hr : r + 1 ≤ R) (hi : i < j) (hj : j ≤ n) (ht : Tight E (r + 1) i) :
    (fit i j = true ∧ 0 ≤ A r j ∧ c i j + A r j = A (r + 1) i) ↔ OkS fit c E r i j := by
  have hAi := tight_A hE hA hr (by omega) ht
  have key : ∀ s, s ≤ r → E s j ≠ -1 → fit i j = true → c i j + E s j ≤ E (r + 1) i → s = r := by
    intro s hs hv hf hle
    by_cases e : s = r
    · exact e
    · have := step_le hE (r := s) (by omega) hi hj hf hv
      rcases ht.2 (s + 1) (by omega) with q | q
      · exact absurd q this.1
      · omega
  constructor
  · rintro ⟨hf, h0, he⟩
    obtain ⟨_, ⟨s, hs, hp⟩, _⟩ := (hA r j (by omega) hj).mem (by omega)
    have k := (hE s j (by omega) hj).has hp
    have hsr := key s hs k.1 hf (by have := k.2.2; omega)
    subst hsr
    have hm := (hE s j (by omega) hj).mem k.1
    have h2 := (hA s j (by omega) hj).has ⟨s, Nat.le_refl _, hm.2.1⟩
    exact ⟨hf, k.1, by have := k.2.2; have := h2.2.2; omega⟩
  · rintro ⟨hf, hv, he⟩
    have hm := (hE r j (by omega) hj).mem hv
    have h2 := (hA r j (by omega) hj).has ⟨r, Nat.le_refl _, hm.2.1⟩
    obtain ⟨_, ⟨s, hs, hp⟩, _⟩ := (hA r j (by omega) hj).mem h2.1
    have k := (hE s j (by omega) hj).has hp
    have hsr := key s hs k.1 hf (by have := k.2.2; have := h2.2.2; omega)
    subst hsr
    exact ⟨hf, h2.2.1, by have := k.2.2; have := h2.2.2; omega⟩
theorem tight_next (hE : ∀ r i, r ≤ R → i ≤ n → Lst (Pth n fit c r i) (E r i)) {r i j : Nat} (hr : r + 1 ≤ R) (hi : i < j) (hj : j ≤ n) (ht : Tight E (r + 1) i) (hok : OkS fit c E r i j) : Tight E r j := by
  refine ⟨hok.2.1, fun s hs => ?_⟩
  by_cases hv : E s j = -1
  · exact .inl hv
  · right
    have := step_le hE (r := s) (by omega) hi hj hok.1 hv
    have h3 := hok.2.2
    rcases ht.2 (s + 1) (by omega) with q | q
    · exact absurd q this.1
    · omega
end
end Go.Proofs.YtalfcmgcjdkolaaGreatDoor
namespace Go.Proofs.YtalfcmgcjdkolaaGreatDoor
set_option maxRecDepth 100000
structure Pok (p : A_Paragraph) : Prop where
  toks : p.Tokens.length ≤ 8
  texts : ∀ t ∈ p.Tokens, t.Text.length ≤ 1048576
def ckTk (t : A_Token) : Int := if t.Text = [] ∨ hasSp t.Text = true then 4 else if gv t.Text = false then 10 else if t.Sg < 0 ∨ 5 < t.Sg then 2 else 0
def ckTks : List A_Token → Int
  | [] => 0
  | t :: l => if ckTk t ≠ 0 then ckTk t else ckTks l
theorem toks_prog (l : List A_Token) (hl : l.length ≤ 8) (h : ∀ t ∈ l, t.Text.length ≤ 1048576) : g_token_Check l = some (ckTks l) := by
  unfold g_token_Check
  rw [if_neg (by simp; omega)]
  have key := iter_idx (step := g_token_Check_s1 l) l.length (by omega) (fun i => if ckTks (l.drop i) = 0 then .inr () else .inl (ckTks (l.drop i))) (fun i hi => ?_) ?_
  · rw [List.drop_zero] at key
    rw [key]
    simp only [Option.bind_some]
    split
    · rename_i e he; split at he <;> cases he; rfl
    · rename_i e he; split at he
      · rename_i h0; rw [h0]
      · cases he
  · have ht := h _ (List.getElem_mem hi)
    unfold g_token_Check_s1
    rw [if_pos (by simpa using hi), atI_nat hi, List.drop_eq_getElem_cons hi, wr64 (by omega)]
    simp only [Option.bind_some, cont_eq, prog_Valid_eq _ (show l[i].Text.length ≤ 140737488355328 by omega), ckTks]
    generalize l[i] = t
    unfold ckTk
    by_cases h1 : t.Text = []
    · right; simp [h1]
    · have hb : (t.Text == ([] : List UInt8)) = false := by simpa using h1
      simp only [hb, Bool.false_eq_true, if_false, Option.bind_some, h1, false_or]
      cases hasSp t.Text
      · cases gv t.Text
        · right; simp
        · by_cases h2 : t.Sg < 0
          · right; simp [h2]
          · by_cases h3 : 5 < t.Sg
            · right; simp [h2, h3]
            · left; simp [h2, h3]
      · right; simp
  · unfold g_token_Check_s1
    rw [if_neg (by simp)]
    simp [ckTks]
theorem toks_ref (l : List A_Token) (hl : l.length ≤ 8) (h : ∀ t ∈ l, t.Text.length ≤ 1048576) : g_ref34_Check l = some (ckTks l) := by
  unfold g_ref34_Check
  rw [if_neg (by simp; omega)]
  have key := iter_idx (step := g_ref34_Check_s1 l) l.length (by omega) (fun i => if ckTks (l.drop i) = 0 then .inr () else .inl (ckTks (l.drop i))) (fun i hi => ?_) ?_
  · rw [List.drop_zero] at key
    rw [key]
    simp only [Option.bind_some]
    split
    · rename_i e he; split at he <;> cases he; rfl
    · rename_i e he; split at he
      · rename_i h0; rw [h0]
      · cases he
  · have ht := h _ (List.getElem_mem hi)
    unfold g_ref34_Check_s1
    rw [if_pos (by simpa using hi), atI_nat hi, List.drop_eq_getElem_cons hi, wr64 (by omega)]
    simp only [Option.bind_some, ckTks]
    generalize l[i] = t at ht
    rw [sp_loop (step := g_ref34_Check_s2 t) t.Text (by omega) (fun x => rfl), ref_Valid_eq _ (show t.Text.length ≤ 140737488355328 by omega)]
    unfold ckTk
    by_cases h1 : t.Text = []
    · right; simp [h1]
    · have hb : (t.Text == ([] : List UInt8)) = false := by simpa using h1
      simp only [hb, Bool.false_eq_true, if_false, Option.bind_some, h1, false_or]
      cases hasSp t.Text
      · cases gv t.Text
        · right; simp
        · by_cases h2 : t.Sg < 0
          · right; simp [h2]
          · by_cases h3 : 5 < t.Sg
            · right; simp [h2, h3]
            · left; simp [h2, h3]
      · right; simp
  · unfold g_ref34_Check_s1
    rw [if_neg (by simp)]
    simp [ckTks]
def ckP (p : A_Paragraph) : Int := if ckTks p.Tokens ≠ 0 then ckTks p.Tokens else if p.Tokens = [] then 6 else if p.Width < 1 ∨ 32 < p.Width ∨ p.Rows < 1 ∨ 4 < p.Rows then 2 else pcS p.Table
theorem opt4 (p : A_Paragraph) : (if (decide (p.Width < 1)) then (some true) else (if (decide (32 < p.Width)) then (some true) else (if (decide (p.Rows < 1)) then (some true) else (some (decide (4 < p.Rows))))) : Option Bool) = some (decide (p.Width < 1 ∨ 32 < p.Width ∨ p.Rows < 1 ∨ 4 < p.Rows)) := by
  by_cases h1 : p.Width < 1
  · simp [h1]
  by_cases h2 : 32 < p.Width
  · simp [h1, h2]
  by_cases h3 : p.Rows < 1
  · simp [h1, h2, h3]
  · simp [h1, h2, h3]
theorem par_prog {p : A_Paragraph} (h : Pok p) : g_rowbreak_Check p = some (ckP p) := by
  unfold g_rowbreak_Check ckP
  rw [toks_prog _ h.toks h.texts, opt4, pen_Check]
  simp only [Option.bind_some]
  by_cases h1 : ckTks p.Tokens = 0
  · simp only [h1, bne_self_eq_false, Bool.false_eq_true, if_false, ne_eq, not_true]
    by_cases h2 : p.Tokens = []
    · simp [h2]
    · have : ((p.Tokens.length : Int) == 0) = false := by
        have := List.length_pos_iff.2 h2
        simpa using (by omega : ¬ (p.Tokens.length : Int) = 0)
      simp only [this, Bool.false_eq_true, if_false, h2]
      by_cases h3 : p.Width < 1 ∨ 32 < p.Width ∨ p.Rows < 1 ∨ 4 < p.Rows <;> simp [h3]
  · simp [h1]
theorem par_ref {p : A_Paragraph} (h : Pok p) : g_ref36_Check p = some (ckP p) := by
  unfold g_ref36_Check ckP
  rw [toks_ref _ h.toks h.texts, opt4, ref_penCheck, pen_Check]
  simp only [Option.bind_some]
  by_cases h1 : ckTks p.Tokens = 0
  · simp only [h1, bne_self_eq_false, Bool.false_eq_true, if_false, ne_eq, not_true]
    by_cases h2 : p.Tokens = []
    · simp [h2]
    · have : ((p.Tokens.length : Int) == 0) = false := by
        have := List.length_pos_iff.2 h2
        simpa using (by omega : ¬ (p.Tokens.length : Int) = 0)
      simp only [this, Bool.false_eq_true, if_false, h2]
      by_cases h3 : p.Width < 1 ∨ 32 < p.Width ∨ p.Rows < 1 ∨ 4 < p.Rows <;> simp [h3]
  · simp [h1]
theorem ckTks_0 : ∀ {l : List A_Token}, ckTks l = 0 → ∀ t ∈ l, t.Text ≠ [] ∧ gv t.Text = true ∧ 0 ≤ t.Sg ∧ t.Sg ≤ 5
  | [], _, t, ht => by cases ht
  | u :: l, h, t, ht => by
    unfold ckTks at h
    by_cases hu : ckTk u = 0
    · rw [if_neg (by omega)] at h
      rcases List.mem_cons.1 ht with rfl | ht
      · unfold ckTk at hu
        by_cases h1 : t.Text = [] ∨ hasSp t.Text = true
        · rw [if_pos h1] at hu; cases hu
        · rw [if_neg h1] at hu
          by_cases h2 : gv t.Text = false
          · rw [if_pos h2] at hu; cases hu
          · rw [if_neg h2] at hu
            by_cases h3 : t.Sg < 0 ∨ 5 < t.Sg
            · rw [if_pos h3] at hu; cases hu
            · exact ⟨fun e => h1 (.inl e), by simpa using h2, by omega, by omega⟩
      · exact ckTks_0 h t ht
    · rw [if_pos hu] at h; exact absurd h hu
structure Pv (p : A_Paragraph) : Prop where
  ok : Pok p
  ne : p.Tokens ≠ []
  tok : ∀ t ∈ p.Tokens, t.Text ≠ [] ∧ gv t.Text = true ∧ 0 ≤ t.Sg ∧ t.Sg ≤ 5
  width : 1 ≤ p.Width ∧ p.Width ≤ 32
  rows : 1 ≤ p.Rows ∧ p.Rows ≤ 4
  table : pcS p.Table = 0
theorem ckP_0 {p : A_Paragraph} (h : Pok p) (h0 : ckP p = 0) : Pv p := by
  unfold ckP at h0
  by_cases h1 : ckTks p.Tokens = 0
  · rw [if_neg (by omega)] at h0
    by_cases h2 : p.Tokens = []
    · rw [if_pos h2] at h0; cases h0
    · rw [if_neg h2] at h0
      by_cases h3 : p.Width < 1 ∨ 32 < p.Width ∨ p.Rows < 1 ∨ 4 < p.Rows
      · rw [if_pos h3] at h0; cases h0
      · rw [if_neg h3] at h0
        exact ⟨h, h2, ckTks_0 h1, by omega, by omega, h0⟩
  · rw [if_pos h1] at h0; exact absurd h0 h1
def tlen (p : A_Paragraph) (k : Nat) : Int := chL (p.Tokens[k]?.getD ⟨[], 0⟩).Text
def smP (p : A_Paragraph) : Nat → Int
  | 0 => 0
  | k + 1 => smP p k + tlen p k
def lnP (p : A_Paragraph) (i j : Nat) : Int := smP p j - smP p i + j - i - 1
theorem tlen_at (p : A_Paragraph) {k : Nat} (h : k < p.Tokens.length) : tlen p k = chL p.Tokens[k].Text := by simp [tlen, h]
theorem tlen_le {p : A_Paragraph} (h : Pok p) {k : Nat} (hk : k < p.Tokens.length) : -1 ≤ tlen p k ∧ tlen p k ≤ 1048576 := by
  rw [tlen_at p hk]; exact chL_le _ (h.texts _ (List.getElem_mem hk))
theorem smP_le {p : A_Paragraph} (h : Pok p) : ∀ {k : Nat}, k ≤ p.Tokens.length → -(k : Int) ≤ smP p k ∧ smP p k ≤ (k : Int) * 1048576
  | 0, _ => by simp [smP]
  | k + 1, hk => by
    have := smP_le h (k := k) (by omega)
    have := tlen_le h (k := k) (by omega)
    unfold smP
    omega
theorem smP_b {p : A_Paragraph} (h : Pok p) {k : Nat} (hk : k ≤ p.Tokens.length) : -8 ≤ smP p k ∧ smP p k ≤ 8388608 := by
  have := smP_le h hk
  have := h.toks
  omega
theorem tlen_pos {p : A_Paragraph} (h : Pv p) {k : Nat} (hk : k < p.Tokens.length) : 1 ≤ tlen p k := by
  rw [tlen_at p hk]
  have := h.tok _ (List.getElem_mem hk)
  exact chL_pos this.2.1 this.1
theorem smP_lt {p : A_Paragraph} (h : Pv p) {i : Nat} : ∀ {j : Nat}, i ≤ j → j ≤ p.Tokens.length → smP p i + ((j : Int) - i) ≤ smP p j
  | 0, hij, _ => by obtain rfl : i = 0 := by omega
                    simp
  | j + 1, hij, hj => by
    by_cases e : i = j + 1
    · subst e; omega
    · have := smP_lt h (i := i) (j := j) (by omega) (by omega)
      have := tlen_pos h (k := j) (by omega)
      rw [show smP p (j + 1) = smP p j + tlen p j from rfl]
      omega
def fitP (p : A_Paragraph) (i j : Nat) : Bool := decide (lnP p i j ≤ p.Width)
theorem fit_mono {p : A_Paragraph} (h : Pv p) {i j k : Nat} (hij : i < j) (hjk : j ≤ k) (hk : k ≤ p.Tokens.length) (hf : fitP p i j = false) : fitP p i k = false := by
  have := smP_lt h hjk hk
  unfold fitP lnP at *
  simp only [decide_eq_false_iff_not] at *
  omega
def aimP (p : A_Paragraph) : Int := (aimS (lnP p 0 p.Tokens.length) p.Width).1
def strP (p : A_Paragraph) (j : Nat) : Int := if j < p.Tokens.length then (p.Tokens[j - 1]?.getD ⟨[], 0⟩).Sg else -1
def cPr (p : A_Paragraph) (i j : Nat) : Int := (rowS p.Table (aimP p) (lnP p i j) (strP p j)).1
theorem cPr_le (p : A_Paragraph) (i j : Nat) : 0 ≤ cPr p i j ∧ cPr p i j ≤ 33000000 := rowS_le _ _ _ _
def shP (p : A_Paragraph) (a : Int) : T_rowbreak_sheet := ⟨p, (List.range (p.Tokens.length + 1)).map (smP p), a⟩
theorem shP_at (p : A_Paragraph) {k : Nat} (hk : k ≤ p.Tokens.length) : atI ((List.range (p.Tokens.length + 1)).map (smP p)) (k : Int) = some (smP p k) := by
  rw [atI_nat (by simp; omega)]
  simp
theorem length_eq {p : A_Paragraph} (h : Pok p) (a : Int) {i j : Nat} (hi : i ≤ p.Tokens.length) (hj : j ≤ p.Tokens.length) : g_rowbreak_sheet_length (shP p a) (i : Int) (j : Int) = some (lnP p i j) := by
  unfold g_rowbreak_sheet_length shP
  dsimp only
  rw [shP_at p hj, shP_at p hi]
  have h1 := smP_b h hi
  have h2 := smP_b h hj
  have := h.toks
  simp only [Option.bind_some]
  rw [wr64 (x := smP p j - smP p i) (by omega), wr64 (x := smP p j - smP p i + j) (by omega), wr64 (x := smP p j - smP p i + j - i) (by omega), wr64 (x := smP p j - smP p i + j - i - 1) (by omega)]
  rfl
theorem fits_eq {p : A_Paragraph} (h : Pok p) (a : Int) {i j : Nat} (hi : i ≤ p.Tokens.length) (hj : j ≤ p.Tokens.length) : g_rowbreak_sheet_fits (shP p a) (i : Int) (j : Int) = some (fitP p i j) := by
  unfold g_rowbreak_sheet_fits
  rw [length_eq h a hi hj]
  rfl
theorem cost_eq {p : A_Paragraph} (h : Pok p) {i j : Nat} (hi : i < j) (hj : j ≤ p.Tokens.length) : g_rowbreak_sheet_cost (shP p (aimP p)) (i : Int) (j : Int) = some (cPr p i j) := by
  unfold g_rowbreak_sheet_cost g_rowbreak_sheet_n
  rw [length_eq h _ (by omega) hj]
  have := h.toks
  simp only [Option.bind_some, row_prog]
  have e : (shP p (aimP p)).p_ = p := rfl
  have e2 : (shP p (aimP p)).aim_ = aimP p := rfl
  rw [e, e2]
  unfold cPr strP
  by_cases h1 : j < p.Tokens.length
  · rw [if_pos (by simpa using h1), if_pos h1, wr64 (by omega), show ((j : Int) - 1) = ((j - 1 : Nat) : Int) by omega, atI_nat (show j - 1 < p.Tokens.length by omega)]
    simp [show j - 1 < p.Tokens.length by omega]
  · rw [if_neg (by simpa using h1), if_neg h1]
theorem open_eq {p : A_Paragraph} (h : Pok p) : g_rowbreak_open p = some (shP p (aimP p)) := by
  unfold g_rowbreak_open
  have hn := h.toks
  have key : iter (g_rowbreak_open_s1 p) (0, [0]) = some ((List.range (p.Tokens.length + 1)).map (smP p)) := by
    refine iter_of (fun x e => ∃ i : Nat, x.1 = (i : Int) ∧ i ≤ p.Tokens.length ∧ x.2 = (List.range (i + 1)).map (smP p) ∧ e = (List.range (p.Tokens.length + 1)).map (smP p)) (fun x => p.Tokens.length - x.1.toNat) ?_ (x := (0, [0])) ⟨0, rfl, by omega, rfl, rfl⟩ (by show p.Tokens.length - 0 < _; omega)
    rintro ⟨x, m⟩ e ⟨i, hx, hi, hm, rfl⟩
    dsimp only at hx hm ⊢
    subst hx hm
    unfold g_rowbreak_open_s1
    dsimp only
    by_cases hlt : i < p.Tokens.length
    · left
      rw [if_pos (by simpa using hlt), atI_nat hlt, atI_nat (show i < ((List.range (i + 1)).map (smP p)).length by simp)]
      simp only [Option.bind_some]
      rw [len_prog _ (h.texts _ (List.getElem_mem hlt))]
      have b1 := smP_b h (k := i) (by omega)
      have b2 := tlen_le h hlt
      simp only [Option.bind_some, List.length_map, List.length_range, List.getElem_map, List.getElem_range]
      rw [if_pos (by omega), wr64 (x := (i : Int) + 1) (by omega), ← tlen_at p hlt, wr64 (x := smP p i + tlen p i) (by omega)]
      refine ⟨_, rfl, ⟨i + 1, rfl, by omega, ?_, by first | rfl | trivial⟩, by dsimp only; omega⟩
      dsimp only
      rw [show List.range (i + 1 + 1) = List.range (i + 1) ++ [i + 1] from List.range_succ, List.map_append]; rfl
    · right
      obtain rfl : i = p.Tokens.length := by omega
      rw [if_neg (by simp)]
  rw [key]
  simp only [Option.bind_some, g_rowbreak_sheet_n]
  have e : (T_rowbreak_sheet.mk p ((List.range (p.Tokens.length + 1)).map (smP p)) 0) = shP p 0 := rfl
  rw [e]
  have := length_eq h 0 (i := 0) (j := p.Tokens.length) (by omega) (by omega)
  simp only [Int.natCast_zero] at this
  rw [this]
  simp only [Option.bind_some, aim_prog]
  rfl
theorem refLen_eq {p : A_Paragraph} (h : Pok p) {i j : Nat} (hi : i < j) (hj : j ≤ p.Tokens.length) : g_ref34_Len p.Tokens (i : Int) (j : Int) = some (lnP p i j) := by
  unfold g_ref34_Len
  have hn := h.toks
  rw [show (if (decide ((i : Int) < 0)) then (some true) else (if (decide ((j : Int) < (i : Int))) then (some true) else (some (decide ((p.Tokens.length : Int) < (j : Int))))) : Option Bool) = some false by
    rw [if_neg (by simp), if_neg (by simp; omega)]; simp; omega]
  simp only [Option.bind_some, Bool.false_eq_true, if_false]
  have key : iter (g_ref34_Len_s1 p.Tokens (i : Int) (j : Int)) (0, (i : Int)) = some (lnP p i j) := by
    refine iter_of (fun x e => ∃ k : Nat, x.2 = (k : Int) ∧ i ≤ k ∧ k ≤ j ∧ x.1 = (if k = i then 0 else lnP p i k) ∧ e = lnP p i j) (fun x => j - x.2.toNat) ?_ (x := (0, (i : Int))) ⟨i, rfl, by omega, by omega, by simp, rfl⟩ (by show j - _ < _; omega)
    rintro ⟨a, x⟩ e ⟨k, hx, hik, hkj, ha, rfl⟩
    dsimp only at hx ha ⊢
    subst hx ha
    unfold g_ref34_Len_s1
    dsimp only
    by_cases hlt : k < j
    · left
      have hk : k < p.Tokens.length := by omega
      have b0 := smP_b h (k := i) (by omega)
      have b1 := smP_b h (k := k) (by omega)
      have b2 := tlen_le h hk
      rw [if_pos (by simpa using hlt), atI_nat hk, wr64 (x := (k : Int) + 1) (by omega)]
      simp only [Option.bind_some]
      rw [len_ref _ (h.texts _ (List.getElem_mem hk)), ← tlen_at p hk]
      simp only [Option.bind_some]
      by_cases e : k = i
      · subst e
        rw [if_neg (by simp), if_pos rfl, wr64 (by omega)]
        refine ⟨_, rfl, ⟨k + 1, rfl, by omega, by omega, ?_, by first | rfl | trivial⟩, by dsimp only; omega⟩
        dsimp only
        rw [if_neg (by omega)]
        unfold lnP
        rw [show smP p (k + 1) = smP p k + tlen p k from rfl]
        omega
      · rw [if_pos (by simp; omega), if_neg e, wr64 (x := lnP p i k + 1) (by unfold lnP; omega), wr64 (x := lnP p i k + 1 + tlen p k) (by unfold lnP; omega)]
        refine ⟨_, rfl, ⟨k + 1, rfl, by omega, by omega, ?_, by first | rfl | trivial⟩, by dsimp only; omega⟩
        dsimp only
        rw [if_neg (by omega)]
        unfold lnP
        rw [show smP p (k + 1) = smP p k + tlen p k from rfl]
        omega
    · right
      obtain rfl : k = j := by omega
      rw [if_neg (by simp), if_neg (by omega)]
  rw [key]; rfl
theorem refFits_eq {p : A_Paragraph} (h : Pok p) {i j : Nat} (hi : i < j) (hj : j ≤ p.Tokens.length) : g_ref36_Fits p (i : Int) (j : Int) = some (fitP p i j) := by
  unfold g_ref36_Fits
  rw [refLen_eq h hi hj]; rfl
theorem refRow_eq {p : A_Paragraph} (h : Pok p) {i j : Nat} (hi : i < j) (hj : j ≤ p.Tokens.length) : g_ref36_row p (i : Int) (j : Int) = some (cPr p i j) := by
  unfold g_ref36_row
  have := h.toks
  have h0 := refLen_eq h (i := 0) (j := p.Tokens.length) (by omega) (by omega)
  simp only [Int.natCast_zero] at h0
  rw [h0, refLen_eq h hi hj]
  simp only [Option.bind_some, aim_ref, row_ref]
  unfold cPr strP
  by_cases h1 : j < p.Tokens.length
  · rw [if_pos (by simpa using h1), if_pos h1, wr64 (by omega), show ((j : Int) - 1) = ((j - 1 : Nat) : Int) by omega, atI_nat (show j - 1 < p.Tokens.length by omega)]
    simp [show j - 1 < p.Tokens.length by omega, aimP]
  · rw [if_neg (by simpa using h1), if_neg h1]
    rfl
end Go.Proofs.YtalfcmgcjdkolaaGreatDoor
namespace Go.Proofs.YtalfcmgcjdkolaaGreatDoor
set_option maxRecDepth 100000
theorem pth_bd {n : Nat} {fit : Nat → Nat → Bool} {c : Nat → Nat → Int} {K : Int} (hc : ∀ i j, 0 ≤ c i j ∧ c i j ≤ K) : ∀ {r i : Nat} {x : Int}, Pth n fit c r i x → 0 ≤ x ∧ x ≤ (r : Int) * K := by
  intro r i x h
  induction h with
  | nil => simp
  | @cons r i j x _ _ _ _ ih =>
    have := hc i j
    have e : ((r + 1 : Nat) : Int) * K = (r : Int) * K + K := by rw [Int.natCast_add, Int.add_mul]; omega
    omega
abbrev PP (p : A_Paragraph) := Pth p.Tokens.length (fitP p) (cPr p)
abbrev PA (p : A_Paragraph) := AtM p.Tokens.length (fitP p) (cPr p)
theorem pp_bd {p : A_Paragraph} {r i : Nat} {x : Int} (h : PP p r i x) : 0 ≤ x ∧ x ≤ (r : Int) * 33000000 := pth_bd (cPr_le p) h
theorem lst_bd {p : A_Paragraph} {r i : Nat} {v : Int} (hr : r ≤ 8) (h : Lst (PP p r i) v) : -1 ≤ v ∧ v ≤ 264000000 := by
  by_cases hv : v = -1
  · omega
  · have h1 := h.mem hv
    have h2 := pp_bd h1.2.1
    omega
theorem lstA_bd {p : A_Paragraph} {r i : Nat} {v : Int} (hr : r ≤ 8) (h : Lst (PA p r i) v) : -1 ≤ v ∧ v ≤ 264000000 := by
  by_cases hv : v = -1
  · omega
  · obtain ⟨h1, ⟨s, hs, h2⟩, _⟩ := h.mem hv
    have h2 := pp_bd h2
    omega
def RowOK (p : A_Paragraph) (r : Nat) (row : List Int) : Prop := row.length = p.Tokens.length + 1 ∧ ∀ i, i ≤ p.Tokens.length → ∃ v, row[i]? = some v ∧ Lst (PP p r i) v
theorem getI {α : Type} {l : List α} {i : Nat} {v : α} (h : l[i]? = some v) : atI l (i : Int) = some v := by
  obtain ⟨h1, h2⟩ := List.getElem?_eq_some_iff.1 h
  rw [atI_nat h1, h2]
theorem ex_inner {p : A_Paragraph} (hv : Pv p) {r i : Nat} (hr : 1 ≤ r) (hr4 : r ≤ 8) (hi : i ≤ p.Tokens.length) {m : List (List Int)} {prev row z : List Int} (hm : m[r - 1]? = some prev) (hp : RowOK p (r - 1) prev) (hrow : row.length = p.Tokens.length + 1) :
    ∃ e, iter (g_rowbreak_sheet_exact_s3 (shP p (aimP p)) (p.Tokens.length : Int) ((r : Int), m) ((i : Int), z)) ((i : Int) + 1, row.set i (-1)) = some e ∧ ∃ v, e = row.set i v ∧ Lst (PP p r i) v := by
  have hn := hv.ok.toks
  refine iter_post (fun x => ∃ (J : Nat) (v : Int), x.1 = (J : Int) ∧ i < J ∧ J ≤ p.Tokens.length + 1 ∧ x.2 = row.set i v ∧ Lst (Cand (fitP p) (cPr p) (PP p (r - 1)) i J) v ∧ -1 ≤ v ∧ v ≤ 264000000) (fun x => p.Tokens.length + 1 - x.1.toNat) (fun e => ∃ v, e = row.set i v ∧ Lst (PP p r i) v) ⟨i + 1, -1, rfl, by omega, by omega, rfl, cand_start _ _, by omega, by omega⟩ (by show p.Tokens.length + 1 - _ < _; omega) ?_
  rintro ⟨x, rw'⟩ ⟨J, v, hx, hiJ, hJ, hrw, hL, hb1, hb2⟩
  dsimp only at hx hrw ⊢
  subst hx hrw
  unfold g_rowbreak_sheet_exact_s3
  dsimp only
  have hfin : (J ≤ p.Tokens.length → fitP p i J = false) → ∃ e, some (Nx.out (row.set i v) : Nx (Int × List Int) (List Int)) = some (.out e) ∧ ∃ v, e = row.set i v ∧ Lst (PP p r i) v := fun hf => by
    refine ⟨_, rfl, v, rfl, ?_⟩
    have := cand_end (n := p.Tokens.length) hJ (fun hle k hk1 hk2 => fit_mono hv hiJ hk1 hk2 (hf hle)) hL
    obtain ⟨r', rfl⟩ : ∃ r', r = r' + 1 := ⟨r - 1, by omega⟩
    exact this.congr fun x => pth_succ.symm
  by_cases hle : J ≤ p.Tokens.length
  · rw [if_pos (show decide ((J : Int) ≤ (p.Tokens.length : Int)) = true by simpa using hle), fits_eq hv.ok _ hi hle]
    simp only [Option.bind_some]
    cases hf : fitP p i J
    · right
      exact hfin fun _ => hf
    · left
      simp only [if_true]
      rw [wr64 (x := (r : Int) - 1) (by omega), show ((r : Int) - 1) = ((r - 1 : Nat) : Int) by omega, getI hm]
      simp only [Option.bind_some]
      rw [if_pos (by omega)]
      obtain ⟨w, hw, hLw⟩ := hp.2 J hle
      have hwb := lst_bd (by omega) hLw
      rw [getI hw, wr64 (x := (J : Int) + 1) (by omega)]
      simp only [Option.bind_some]
      have hstep := cand_step hiJ hf (cPr_le p i J).1 hL hLw
      by_cases h1 : w = -1
      · rw [if_pos (by simpa using h1)]
        rw [if_pos h1] at hstep
        exact ⟨_, rfl, ⟨J + 1, v, rfl, by omega, by omega, rfl, hstep, hb1, hb2⟩, by dsimp only; omega⟩
      · rw [if_neg (by simpa using h1), cost_eq hv.ok hiJ hle]
        rw [if_neg h1] at hstep
        simp only [Option.bind_some]
        have hat : (row.set i v)[i]? = some v := by rw [List.getElem?_set, if_pos rfl, if_pos (by omega)]
        have hc := cPr_le p i J
        have hps := hLw.mem h1
        have hpb := pp_bd hps.2.1
        rw [getI hat, wr64 (x := cPr p i J + w) (by omega)]
        simp only [Option.bind_some]
        have hcw : cPr p i J + w ≤ 264000000 := by
          have : ((r - 1 : Nat) : Int) ≤ 7 := by omega
          omega
        by_cases h2 : v = -1 ∨ cPr p i J + w < v
        · rw [if_pos h2] at hstep
          have hcond : (if (v == -1) = true then some true else some (decide (cPr p i J + w < v)) : Option Bool) = some true := by
            rcases h2 with h2 | h2
            · simp [h2]
            · simp [h2]
          rw [hcond]
          simp only [Option.bind_some, if_true]
          rw [setI_nat _ (by rw [List.length_set]; omega), List.set_set]
          exact ⟨_, rfl, ⟨J + 1, cPr p i J + w, rfl, by omega, by omega, rfl, hstep, by omega, hcw⟩, by dsimp only; omega⟩
        · rw [if_neg h2] at hstep
          have hcond : (if (v == -1) = true then some true else some (decide (cPr p i J + w < v)) : Option Bool) = some false := by
            have a1 : ¬ v = -1 := fun e => h2 (.inl e)
            have a2 : ¬ cPr p i J + w < v := fun e => h2 (.inr e)
            simp [a1, a2]
          rw [hcond]
          simp only [Option.bind_some, Bool.false_eq_true, if_false]
          exact ⟨_, rfl, ⟨J + 1, v, rfl, by omega, by omega, rfl, hstep, hb1, hb2⟩, by dsimp only; omega⟩
  · right
    rw [if_neg (by simpa using hle)]
    simp only [Option.bind_some, Bool.false_eq_true, if_false]
    exact hfin fun h => absurd h hle
theorem ex_row {p : A_Paragraph} (hv : Pv p) {r : Nat} (hr : 1 ≤ r) (hr4 : r ≤ 8) {m : List (List Int)} {prev m0 : List Int} (hm : m[r - 1]? = some prev) (hp : RowOK p (r - 1) prev) (h0 : m0.length = p.Tokens.length + 1) :
    ∃ e, iter (g_rowbreak_sheet_exact_s2 (shP p (aimP p)) (p.Tokens.length : Int) ((r : Int), m) m0) (0, m0) = some e ∧ RowOK p r e := by
  have hn := hv.ok.toks
  refine iter_post (fun x => ∃ i : Nat, x.1 = (i : Int) ∧ i ≤ p.Tokens.length + 1 ∧ x.2.length = p.Tokens.length + 1 ∧ ∀ k, k < i → ∃ v, x.2[k]? = some v ∧ Lst (PP p r k) v) (fun x => p.Tokens.length + 1 - x.1.toNat) (RowOK p r) (x := (0, m0)) ⟨0, rfl, by omega, h0, fun k hk => by omega⟩ (by show p.Tokens.length + 1 - _ < _; omega) ?_
  rintro ⟨x, row⟩ ⟨i, hx, hi, hl, hk⟩
  dsimp only at hx hl hk ⊢
  subst hx
  unfold g_rowbreak_sheet_exact_s2
  dsimp only
  rw [h0]
  by_cases hlt : i ≤ p.Tokens.length
  · left
    rw [if_pos (by simp; omega), atI_nat (by omega), setI_nat _ (by omega)]
    simp only [Option.bind_some]
    rw [if_neg (by simp; omega), wr64 (x := (i : Int) + 1) (by omega)]
    obtain ⟨e, he, v, rfl, hL⟩ := ex_inner hv hr hr4 hlt (z := row) hm hp hl
    rw [he]
    refine ⟨_, rfl, ⟨i + 1, rfl, by omega, by rw [List.length_set]; exact hl, fun k hk2 => ?_⟩, by dsimp only; omega⟩
    by_cases e : k = i
    · subst e
      exact ⟨v, by rw [List.getElem?_set, if_pos rfl, if_pos (by omega)], hL⟩
    · obtain ⟨w, hw, hLw⟩ := hk k (by omega)
      exact ⟨w, by rw [List.getElem?_set, if_neg (by omega)]; exact hw, hLw⟩
  · right
    rw [if_neg (by simp; omega)]
    exact ⟨_, rfl, hl, fun k hk2 => hk k (by omega)⟩
theorem ex_row0 {p : A_Paragraph} (hv : Pv p) {m : List (List Int)} {m0 : List Int} (h0 : m0.length = p.Tokens.length + 1) :
    ∃ e, iter (g_rowbreak_sheet_exact_s2 (shP p (aimP p)) (p.Tokens.length : Int) (0, m) m0) (0, m0) = some e ∧ e.length = p.Tokens.length + 1 ∧ ∀ k, k ≤ p.Tokens.length → e[k]? = some (-1) := by
  have hn := hv.ok.toks
  refine iter_post (fun x => ∃ i : Nat, x.1 = (i : Int) ∧ i ≤ p.Tokens.length + 1 ∧ x.2.length = p.Tokens.length + 1 ∧ ∀ k, k < i → x.2[k]? = some (-1)) (fun x => p.Tokens.length + 1 - x.1.toNat) (fun (e : List Int) => e.length = p.Tokens.length + 1 ∧ ∀ k, k ≤ p.Tokens.length → e[k]? = some (-1)) (x := (0, m0)) ⟨0, rfl, by omega, h0, fun k hk => by omega⟩ (by show p.Tokens.length + 1 - _ < _; omega) ?_
  rintro ⟨x, row⟩ ⟨i, hx, hi, hl, hk⟩
  dsimp only at hx hl hk ⊢
  subst hx
  unfold g_rowbreak_sheet_exact_s2
  dsimp only
  rw [h0]
  by_cases hlt : i ≤ p.Tokens.length
  · left
    rw [if_pos (by simp; omega), atI_nat (by omega), setI_nat _ (by omega)]
    simp only [Option.bind_some]
    rw [if_pos (by rfl), wr64 (x := (i : Int) + 1) (by omega)]
    refine ⟨_, rfl, ⟨i + 1, rfl, by omega, by rw [List.length_set]; exact hl, fun k hk2 => ?_⟩, by dsimp only; omega⟩
    by_cases e : k = i
    · subst e
      rw [List.getElem?_set, if_pos rfl, if_pos (by omega)]
    · rw [List.getElem?_set, if_neg (by omega)]
      exact hk k (by omega)
  · right
    rw [if_neg (by simp; omega)]
    exact ⟨_, rfl, hl, fun k hk2 => hk k (by omega)⟩
def TabOK (p : A_Paragraph) (R : Nat) (f : List (List Int)) : Prop := f.length = R + 1 ∧ ∀ r, r ≤ R → ∃ row, f[r]? = some row ∧ RowOK p r row
theorem exact_key {p : A_Paragraph} (hv : Pv p) {R : Nat} (hrw : R ≤ 4) : ∃ f, iter (g_rowbreak_sheet_exact_s1 (shP p (aimP p)) (p.Tokens.length : Int) (List.replicate (R + 1) ([] : List Int))) (0, List.replicate (R + 1) ([] : List Int)) = some f ∧ TabOK p R f := by
  have hn := hv.ok.toks
  refine iter_post (fun x => ∃ r : Nat, x.1 = (r : Int) ∧ r ≤ R + 1 ∧ x.2.length = R + 1 ∧ ∀ k, k < r → ∃ row, x.2[k]? = some row ∧ RowOK p k row) (fun x => R + 1 - x.1.toNat) (TabOK p R) (x := (0, _)) ⟨0, rfl, by omega, by simp, fun k hk => by omega⟩ (by show R + 1 - _ < _; omega) ?_
  rintro ⟨x, m⟩ ⟨r, hx, hr, hl, hk⟩
  dsimp only at hx hl hk ⊢
  subst hx
  unfold g_rowbreak_sheet_exact_s1
  dsimp only
  by_cases hlt : r ≤ R
  · left
    rw [if_pos (by simp; omega), wr64 (x := (p.Tokens.length : Int) + 1) (by omega), show ((p.Tokens.length : Int) + 1) = ((p.Tokens.length + 1 : Nat) : Int) by omega, mkI_nat 8 (p.Tokens.length + 1) _ (by omega) (by omega)]
    simp only [Option.bind_some]
    rw [atI_nat (show r < m.length by omega)]
    simp only [Option.bind_some]
    have hset : ∀ row, RowOK p r row → (∃ r' : Nat, ((r : Int) + 1) = (r' : Int) ∧ r' ≤ R + 1 ∧ (m.set (r : Int).toNat row).length = R + 1 ∧ ∀ k, k < r' → ∃ row', (m.set (r : Int).toNat row)[k]? = some row' ∧ RowOK p k row') := fun row hrow => by
      refine ⟨r + 1, by omega, by omega, by rw [List.length_set]; exact hl, fun k hk2 => ?_⟩
      rw [Int.toNat_natCast]
      by_cases e : k = r
      · subst e
        exact ⟨row, by rw [List.getElem?_set, if_pos rfl, if_pos (by omega)], hrow⟩
      · obtain ⟨w, hw, hLw⟩ := hk k (by omega)
        exact ⟨w, by rw [List.getElem?_set, if_neg (by omega)]; exact hw, hLw⟩
    have hzl : (List.replicate (p.Tokens.length + 1) (0 : Int)).length = p.Tokens.length + 1 := by simp
    rw [wr64 (x := (r : Int) + 1) (by omega)]
    by_cases hr0 : r = 0
    · subst hr0
      obtain ⟨e, he, hel, hall⟩ := ex_row0 hv (m := m) hzl
      simp only [Int.natCast_zero] at hset ⊢
      rw [he]
      simp only [Option.bind_some, beq_self_eq_true, if_true]
      have a0 := atI_nat (l := m) (n := 0) (by omega)
      simp only [Int.natCast_zero] at a0
      rw [a0]
      simp only [Option.bind_some]
      rw [atI_nat (show p.Tokens.length < e.length by omega), setI_nat _ (by omega)]
      simp only [Option.bind_some]
      refine ⟨_, rfl, hset _ ⟨by rw [List.length_set]; exact hel, fun i hi => ?_⟩, by dsimp only; omega⟩
      by_cases e2 : i = p.Tokens.length
      · subst e2
        exact ⟨0, by rw [List.getElem?_set, if_pos rfl, if_pos (by omega)], .inr ⟨by omega, .nil, fun x hx => by rw [(pth_zero.1 hx).2]; omega⟩⟩
      · exact ⟨-1, by rw [List.getElem?_set, if_neg (by omega)]; exact hall i hi, .inl ⟨rfl, fun x hx => e2 (pth_zero.1 hx).1⟩⟩
    · obtain ⟨prev, hpv, hpr⟩ := hk (r - 1) (by omega)
      obtain ⟨e, he, hel⟩ := ex_row hv (r := r) (by omega) (by omega) hpv hpr hzl
      rw [he]
      simp only [Option.bind_some]
      rw [if_neg (by simp; omega)]
      exact ⟨_, rfl, hset _ hel, by dsimp only; omega⟩
  · right
    rw [if_neg (by simp; omega)]
    exact ⟨_, rfl, hl, fun k hk2 => hk k (by omega)⟩
theorem exact_eq {p : A_Paragraph} (hv : Pv p) : ∃ f, g_rowbreak_sheet_exact (shP p (aimP p)) = some f ∧ TabOK p p.Rows.toNat f := by
  have hn := hv.ok.toks
  have hrw := hv.rows
  obtain ⟨R, hR⟩ : ∃ R : Nat, p.Rows = (R : Int) := ⟨p.Rows.toNat, by omega⟩
  obtain ⟨f, h1, h2⟩ := exact_key hv (R := R) (by omega)
  refine ⟨f, ?_, by rw [hR]; exact h2⟩
  have e1 : (shP p (aimP p)).p_ = p := rfl
  have e2 : IntKind.i64.wrap (p.Rows + 1) = ((R + 1 : Nat) : Int) := by rw [wr64 (by omega)]; omega
  simp only [g_rowbreak_sheet_exact, g_rowbreak_sheet_n, e1, e2, Option.bind_some, mkI_nat 24 (R + 1) ([] : List Int) (by omega) (by omega), h1]
end Go.Proofs.YtalfcmgcjdkolaaGreatDoor
namespace Go.Proofs.YtalfcmgcjdkolaaGreatDoor
set_option maxRecDepth 100000
theorem idx_inj {n k i k' i' : Nat} (hi : i ≤ n) (hi' : i' ≤ n) (h : k * (n + 1) + i = k' * (n + 1) + i') : k = k' ∧ i = i' := by
  have e : k = k' := by
    rcases Nat.lt_trichotomy k k' with h1 | h1 | h1
    · have := Nat.mul_le_mul_right (n + 1) (show k + 1 ≤ k' from h1)
      rw [Nat.add_mul] at this; omega
    · exact h1
    · have := Nat.mul_le_mul_right (n + 1) (show k' + 1 ≤ k from h1)
      rw [Nat.add_mul] at this; omega
  subst e
  exact ⟨rfl, by omega⟩
theorem idx_lt {n k i R : Nat} (hi : i ≤ n) (hk : k ≤ R) : k * (n + 1) + i < (R + 1) * (n + 1) := by
  have := Nat.mul_le_mul_right (n + 1) (show k + 1 ≤ R + 1 by omega)
  rw [Nat.add_mul] at this; omega
theorem idx_bd {n k i : Nat} (hn : n ≤ 8) (hk : k ≤ 5) (hi : i ≤ n) : k * (n + 1) + i ≤ 100 := by
  have := Nat.mul_le_mul hk (show n + 1 ≤ 9 by omega)
  omega
def PotAt (p : A_Paragraph) (R : Nat) (l : List Int) (k i : Nat) : Prop := ∃ v, l[k * (p.Tokens.length + 1) + i]? = some v ∧ Lst (PA p (R - k) i) v
def PotOK (p : A_Paragraph) (R : Nat) (l : List Int) : Prop := l.length = (R + 1) * (p.Tokens.length + 1) ∧ ∀ k i, k ≤ R → i ≤ p.Tokens.length → PotAt p R l k i
theorem pot_uniq {p : A_Paragraph} {R : Nat} {l l' : List Int} (h : PotOK p R l) (h' : PotOK p R l') : l = l' := by
  refine List.ext_getElem? fun m => ?_
  by_cases hm : m < (R + 1) * (p.Tokens.length + 1)
  · have e : m / (p.Tokens.length + 1) * (p.Tokens.length + 1) + m % (p.Tokens.length + 1) = m := by
      have := Nat.div_add_mod m (p.Tokens.length + 1)
      rw [Nat.mul_comm] at this; exact this
    have h1 : m / (p.Tokens.length + 1) ≤ R := by
      have : m / (p.Tokens.length + 1) < R + 1 := Nat.div_lt_of_lt_mul (by rw [Nat.mul_comm]; exact hm)
      omega
    have h2 : m % (p.Tokens.length + 1) ≤ p.Tokens.length := by
      have := Nat.mod_lt m (show 0 < p.Tokens.length + 1 by omega)
      omega
    obtain ⟨v, a1, a2⟩ := h.2 _ _ h1 h2
    obtain ⟨w, b1, b2⟩ := h'.2 _ _ h1 h2
    rw [e] at a1 b1
    rw [a1, b1, a2.uniq b2]
  · rw [List.getElem?_eq_none (by rw [h.1]; omega), List.getElem?_eq_none (by rw [h'.1]; omega)]
theorem idx_w {n k i : Nat} (hn : n ≤ 8) (hk : k ≤ 5) (hi : i ≤ n) : IntKind.i64.wrap ((IntKind.i64.wrap ((k : Int) * (IntKind.i64.wrap ((n : Int) + 1)))) + (i : Int)) = ((k * (n + 1) + i : Nat) : Int) := by
  have hb := idx_bd hn hk hi
  have e : (k : Int) * ((n : Int) + 1) = ((k * (n + 1) : Nat) : Int) := by
    rw [Int.natCast_mul]; rfl
  rw [wr64 (x := (n : Int) + 1) (by omega), e]
  have key : ∀ g : Nat, g + i ≤ 100 → IntKind.i64.wrap (IntKind.i64.wrap (g : Int) + (i : Int)) = ((g + i : Nat) : Int) := fun g hg => by
    rw [wr64 (x := (g : Int)) (by omega), wr64 (by omega)]; omega
  exact key _ hb
theorem pot_inner {p : A_Paragraph} (hv : Pv p) {R k i : Nat} (hR : p.Rows = (R : Int)) (hk : k ≤ R) (hi : i < p.Tokens.length) {l z : List Int} (hl : ∀ j, k < R → j ≤ p.Tokens.length → PotAt p R l (k + 1) j) :
    ∃ e, iter (g_ref36_potentials_s3 p ((k : Int), z) ((i : Int), l)) (-1, (i : Int) + 1) = some e ∧ Lst (PA p (R - k) i) e := by
  have hn := hv.ok.toks
  have hrw := hv.rows
  by_cases hkR : k < R
  rotate_left
  · obtain rfl : k = R := by omega
    have h0 : Lst (PA p (k - k) i) (-1) := .inl ⟨rfl, fun x hx => by
      rw [Nat.sub_self] at hx
      exact atm_zero (by omega) hx⟩
    refine iter_post (fun x => x.1 = -1) (fun x => 0) (fun e => Lst (PA p (k - k) i) e) rfl (by decide) ?_
    rintro ⟨b, x⟩ hb
    dsimp only at hb
    subst hb
    right
    unfold g_ref36_potentials_s3
    dsimp only
    rw [hR]
    rw [show (if decide (x ≤ (p.Tokens.length : Int)) = true then (if decide ((k : Int) < (k : Int)) = true then (g_ref36_Fits p (i : Int) x).bind fun r => some r else some false) else some false : Option Bool) = some false by simp]
    exact ⟨_, rfl, h0⟩
  obtain ⟨m, hm⟩ : ∃ m, R - k = m + 1 := ⟨R - k - 1, by omega⟩
  have hm2 : R - (k + 1) = m := by omega
  refine iter_post (fun x => ∃ J : Nat, x.2 = (J : Int) ∧ i < J ∧ J ≤ p.Tokens.length + 1 ∧ Lst (Cand (fitP p) (cPr p) (PA p m) i J) x.1 ∧ -1 ≤ x.1 ∧ x.1 ≤ 400000000) (fun x => p.Tokens.length + 1 - x.2.toNat) (fun e => Lst (PA p (R - k) i) e) (x := (-1, (i : Int) + 1)) ⟨i + 1, rfl, by omega, by omega, cand_start _ _, by omega, by omega⟩ (by show p.Tokens.length + 1 - _ < _; omega) ?_
  rintro ⟨b, x⟩ ⟨J, hx, hiJ, hJ, hL, hb1, hb2⟩
  dsimp only at hx hL hb1 hb2 ⊢
  subst hx
  unfold g_ref36_potentials_s3
  dsimp only
  have hfin : (J ≤ p.Tokens.length → fitP p i J = false) → Lst (PA p (R - k) i) b := fun hf => by
    have := cand_end (n := p.Tokens.length) hJ (fun hle k hk1 hk2 => fit_mono hv hiJ hk1 hk2 (hf hle)) hL
    rw [hm]
    exact this.congr fun x => (atm_succ (by omega)).symm
  by_cases hle : J ≤ p.Tokens.length
  · rw [if_pos (show decide ((J : Int) ≤ (p.Tokens.length : Int)) = true by simpa using hle), if_pos (show decide ((k : Int) < p.Rows) = true by rw [hR]; simpa using hkR), refFits_eq hv.ok hiJ hle]
    simp only [Option.bind_some]
    cases hf : fitP p i J
    · right
      exact ⟨_, rfl, hfin fun _ => hf⟩
    · left
      simp only [if_true]
      rw [wr64 (x := (k : Int) + 1) (by omega), show ((k : Int) + 1) = ((k + 1 : Nat) : Int) by omega, idx_w hn (by omega) hle]
      obtain ⟨w, hw, hLw⟩ := hl J hkR hle
      rw [hm2] at hLw
      have hwb := lstA_bd (by omega) hLw
      have hc := cPr_le p i J
      rw [getI hw, refRow_eq hv.ok hiJ hle, wr64 (x := (J : Int) + 1) (by omega)]
      simp only [Option.bind_some]
      have hstep := cand_step hiJ hf hc.1 hL hLw
      by_cases h1 : w = -1
      · rw [if_pos h1] at hstep
        rw [if_pos (show decide (w < 0) = true by simp; omega)]
        exact ⟨_, rfl, ⟨J + 1, rfl, by omega, by omega, hstep, hb1, hb2⟩, by dsimp only; omega⟩
      · rw [if_neg h1] at hstep
        rw [if_neg (show ¬ decide (w < 0) = true by simp; omega), wr64 (x := cPr p i J + w) (by omega)]
        by_cases h2 : b = -1 ∨ cPr p i J + w < b
        · rw [if_pos h2] at hstep
          have hcond : (if decide (b < 0) = true then some (cPr p i J + w) else if decide (cPr p i J + w < b) = true then some (cPr p i J + w) else some b : Option Int) = some (cPr p i J + w) := by
            rcases h2 with h2 | h2
            · simp [h2]
            · simp [h2]
          rw [hcond]
          exact ⟨_, rfl, ⟨J + 1, rfl, by omega, by omega, hstep, by omega, by omega⟩, by dsimp only; omega⟩
        · rw [if_neg h2] at hstep
          have hcond : (if decide (b < 0) = true then some (cPr p i J + w) else if decide (cPr p i J + w < b) = true then some (cPr p i J + w) else some b : Option Int) = some b := by
            rw [if_neg (by simp; omega), if_neg (by simp; omega)]
          rw [hcond]
          exact ⟨_, rfl, ⟨J + 1, rfl, by omega, by omega, hstep, hb1, hb2⟩, by dsimp only; omega⟩
  · right
    rw [if_neg (by simpa using hle)]
    simp only [Option.bind_some, Bool.false_eq_true, if_false]
    exact ⟨_, rfl, hfin fun h => absurd h hle⟩
structure PInv (p : A_Paragraph) (R m : Nat) (l : List Int) : Prop where
  len : l.length = (R + 1) * (p.Tokens.length + 1)
  col : ∀ k, k ≤ R → l[k * (p.Tokens.length + 1) + p.Tokens.length]? = some 0
  done : ∀ k i, m ≤ k → k ≤ R → i ≤ p.Tokens.length → PotAt p R l k i
theorem lst_n (p : A_Paragraph) (m : Nat) : Lst (PA p m p.Tokens.length) 0 := .inr ⟨by omega, atm_n.2 rfl, fun x hx => by rw [atm_n.1 hx]; omega⟩
theorem pot_row {p : A_Paragraph} (hv : Pv p) {R k : Nat} (hR : p.Rows = (R : Int)) (hk : k ≤ R) {l0 : List Int} (h0 : PInv p R (k + 1) l0) :
    ∃ e, iter (g_ref36_potentials_s2 p ((k : Int), l0)) ((p.Tokens.length : Int) - 1, l0) = some e ∧ PInv p R k e := by
  have hn := hv.ok.toks
  have hrw := hv.rows
  refine iter_post (fun x => ∃ m : Nat, x.1 = (m : Int) - 1 ∧ m ≤ p.Tokens.length ∧ PInv p R (k + 1) x.2 ∧ ∀ i, m ≤ i → i ≤ p.Tokens.length → PotAt p R x.2 k i) (fun x => (x.1 + 1).toNat) (PInv p R k) (x := ((p.Tokens.length : Int) - 1, l0)) ⟨p.Tokens.length, rfl, by omega, h0, fun i h1 h2 => ?_⟩ (by show ((p.Tokens.length : Int) - 1 + 1).toNat < _; omega) ?_
  · obtain rfl : i = p.Tokens.length := by omega
    exact ⟨0, h0.col k hk, lst_n p _⟩
  rintro ⟨x, l⟩ ⟨m, hx, hm, hI, hd⟩
  dsimp only at hx hI hd ⊢
  subst hx
  unfold g_ref36_potentials_s2
  dsimp only
  cases m with
  | zero =>
    right
    rw [if_neg (by simp)]
    refine ⟨_, rfl, hI.len, hI.col, fun k' i h1 h2 h3 => ?_⟩
    by_cases e : k' = k
    · subst e; exact hd i (by omega) h3
    · exact hI.done k' i (by omega) h2 h3
  | succ i =>
    left
    rw [show ((i + 1 : Nat) : Int) - 1 = (i : Int) by omega, if_pos (by simp), wr64 (x := (i : Int) + 1) (by omega), idx_w hn (by omega) (by omega), wr64 (x := (i : Int) - 1) (by omega)]
    obtain ⟨v, he, hL⟩ := pot_inner hv hR hk (i := i) (by omega) (l := l) (z := l0) (fun j h1 h2 => hI.done (k + 1) j (by omega) (by omega) h2)
    have hlt : k * (p.Tokens.length + 1) + i < l.length := by rw [hI.len]; exact idx_lt (by omega) hk
    rw [he]
    simp only [Option.bind_some]
    rw [atI_nat hlt, setI_nat _ hlt]
    have hne : ∀ k' i', i' ≤ p.Tokens.length → (k' ≠ k ∨ i' ≠ i) → (l.set (k * (p.Tokens.length + 1) + i) v)[k' * (p.Tokens.length + 1) + i']? = l[k' * (p.Tokens.length + 1) + i']? := fun k' i' h1 h2 => by
      rw [List.getElem?_set, if_neg]
      intro e
      have := idx_inj (by omega) h1 e
      omega
    have hsame : PotAt p R (l.set (k * (p.Tokens.length + 1) + i) v) k i := ⟨v, by rw [List.getElem?_set, if_pos rfl, if_pos hlt], hL⟩
    refine ⟨_, rfl, ⟨i, rfl, by omega, ⟨by rw [List.length_set]; exact hI.len, fun k' h => ?_, fun k' i' h1 h2 h3 => ?_⟩, fun i' h1 h2 => ?_⟩, by dsimp only; omega⟩
    · dsimp only
      rw [hne k' _ (by omega) (.inr (by omega))]
      exact hI.col k' h
    · obtain ⟨w, hw, hLw⟩ := hI.done k' i' h1 h2 h3
      exact ⟨w, by dsimp only; rw [hne k' i' h3 (.inl (by omega))]; exact hw, hLw⟩
    · by_cases e : i' = i
      · subst e; exact hsame
      · obtain ⟨w, hw, hLw⟩ := hd i' (by omega) h2
        exact ⟨w, by dsimp only; rw [hne k i' h2 (.inr e)]; exact hw, hLw⟩
theorem pot_key {p : A_Paragraph} (hv : Pv p) {R : Nat} (hR : p.Rows = (R : Int)) {l0 : List Int} (h0 : PInv p R (R + 1) l0) : ∃ e, iter (g_ref36_potentials_s1 p) ((R : Int), l0) = some e ∧ PInv p R 0 e := by
  have hn := hv.ok.toks
  have hrw := hv.rows
  refine iter_post (fun x => ∃ m : Nat, x.1 = (m : Int) - 1 ∧ m ≤ R + 1 ∧ PInv p R m x.2) (fun x => (x.1 + 1).toNat) (PInv p R 0) (x := ((R : Int), l0)) ⟨R + 1, by show (R : Int) = _; omega, by omega, h0⟩ (by show ((R : Int) + 1).toNat < _; omega) ?_
  rintro ⟨x, l⟩ ⟨m, hx, hm, hI⟩
  dsimp only at hx hI ⊢
  subst hx
  unfold g_ref36_potentials_s1
  dsimp only
  cases m with
  | zero =>
    right
    rw [if_neg (by simp)]
    exact ⟨_, rfl, hI⟩
  | succ k =>
    left
    rw [show ((k + 1 : Nat) : Int) - 1 = (k : Int) by omega, if_pos (by simp), wr64 (x := (p.Tokens.length : Int) - 1) (by omega), wr64 (x := (k : Int) - 1) (by omega)]
    obtain ⟨e, he, hI2⟩ := pot_row hv hR (k := k) (by omega) hI
    rw [he]
    exact ⟨_, rfl, ⟨k, rfl, by omega, hI2⟩, by dsimp only; omega⟩
theorem pot_eq {p : A_Paragraph} (hv : Pv p) : ∃ l, g_ref36_potentials p = some l ∧ PotOK p p.Rows.toNat l := by
  have hn := hv.ok.toks
  have hrw := hv.rows
  obtain ⟨R, hR⟩ : ∃ R : Nat, p.Rows = (R : Int) := ⟨p.Rows.toNat, by omega⟩
  have h0 : PInv p R (R + 1) (List.replicate ((R + 1) * (p.Tokens.length + 1)) (0 : Int)) := ⟨by simp, fun k hk => by
    rw [List.getElem?_replicate, if_pos (idx_lt (by omega) hk)], fun k i h1 h2 _ => by omega⟩
  obtain ⟨l, h1, h2⟩ := pot_key hv hR h0
  refine ⟨l, ?_, h2.len.trans (by rw [hR]; rfl), fun k i hk hi => ?_⟩
  · have hb := idx_bd hn (show R + 1 ≤ 5 by omega) (show 0 ≤ p.Tokens.length by omega)
    have e1 : (IntKind.i64.wrap ((IntKind.i64.wrap (p.Rows + 1)) * (IntKind.i64.wrap ((p.Tokens.length : Int) + 1)))) = (((R + 1) * (p.Tokens.length + 1) : Nat) : Int) := by
      rw [hR, wr64 (x := (R : Int) + 1) (by omega), wr64 (x := (p.Tokens.length : Int) + 1) (by omega)]
      have e : ((R : Int) + 1) * ((p.Tokens.length : Int) + 1) = (((R + 1) * (p.Tokens.length + 1) : Nat) : Int) := by
        rw [Int.natCast_mul]; rfl
      rw [e, wr64 (by omega)]
    rw [hR] at e1
    simp only [g_ref36_potentials, hR, e1, mkI_nat 8 ((R + 1) * (p.Tokens.length + 1)) (0 : Int) (by omega) (by omega), Option.bind_some, h1]
  · rw [hR, Int.toNat_natCast] at hk ⊢
    exact h2.done k i (by omega) hk hi
def parQ (p : A_Paragraph) (r : Int) : A_Paragraph := ⟨p.Tokens, p.Width, r, p.Table⟩
theorem smP_q (p : A_Paragraph) (r : Int) : ∀ k, smP (parQ p r) k = smP p k
  | 0 => rfl
  | k + 1 => by
    rw [show smP (parQ p r) (k + 1) = smP (parQ p r) k + tlen (parQ p r) k from rfl, smP_q p r k]; rfl
theorem lnP_q (p : A_Paragraph) (r : Int) (i j : Nat) : lnP (parQ p r) i j = lnP p i j := by unfold lnP; rw [smP_q, smP_q]
theorem fitP_q (p : A_Paragraph) (r : Int) : fitP (parQ p r) = fitP p := by
  funext i j; unfold fitP; rw [lnP_q]; rfl
theorem cPr_q (p : A_Paragraph) (r : Int) : cPr (parQ p r) = cPr p := by
  funext i j
  have : aimP (parQ p r) = aimP p := by unfold aimP; rw [lnP_q]; rfl
  unfold cPr; rw [lnP_q, this]; rfl
theorem PA_q (p : A_Paragraph) (r : Int) : PA (parQ p r) = PA p := by
  unfold PA; rw [fitP_q, cPr_q]; rfl
theorem Pv_q {p : A_Paragraph} (h : Pv p) {r : Int} (hr : 1 ≤ r ∧ r ≤ 4) : Pv (parQ p r) := ⟨⟨h.ok.toks, h.ok.texts⟩, h.ne, h.tok, h.width, hr, h.table⟩
theorem PotOK_q {p : A_Paragraph} {r : Int} {R : Nat} {l : List Int} (h : PotOK (parQ p r) R l) : PotOK p R l := by
  refine ⟨h.1, fun k i hk hi => ?_⟩
  obtain ⟨v, h1, h2⟩ := h.2 k i hk hi
  exact ⟨v, h1, by rw [PA_q] at h2; exact h2⟩
end Go.Proofs.YtalfcmgcjdkolaaGreatDoor
namespace Go.Proofs.YtalfcmgcjdkolaaGreatDoor
set_option maxRecDepth 100000
def fE (f : List (List Int)) (r i : Nat) : Int := ((f[r]?.getD [])[i]?).getD (-1)
theorem fE_ok {p : A_Paragraph} {R : Nat} {f : List (List Int)} (h : TabOK p R f) : ∀ r i, r ≤ R → i ≤ p.Tokens.length → Lst (Pth p.Tokens.length (fitP p) (cPr p) r i) (fE f r i) := fun r i hr hi => by
  obtain ⟨row, h1, h2⟩ := h.2 r hr
  obtain ⟨v, h3, h4⟩ := h2.2 i hi
  unfold fE
  rw [h1, Option.getD_some, h3, Option.getD_some]
  exact h4
theorem fE_at {p : A_Paragraph} {R : Nat} {f : List (List Int)} (h : TabOK p R f) {r i : Nat} (hr : r ≤ R) (hi : i ≤ p.Tokens.length) : ∃ row, atI f (r : Int) = some row ∧ atI row (i : Int) = some (fE f r i) := by
  obtain ⟨row, h1, h2⟩ := h.2 r hr
  obtain ⟨v, h3, h4⟩ := h2.2 i hi
  refine ⟨row, getI h1, ?_⟩
  unfold fE
  rw [h1, Option.getD_some, h3, Option.getD_some]
  exact getI h3
def fA (l : List Int) (n R m i : Nat) : Int := (l[(R - m) * (n + 1) + i]?).getD (-1)
theorem fA_ok {p : A_Paragraph} {R : Nat} {l : List Int} (h : PotOK p R l) : ∀ m i, m ≤ R → i ≤ p.Tokens.length → Lst (AtM p.Tokens.length (fitP p) (cPr p) m i) (fA l p.Tokens.length R m i) := fun m i hm hi => by
  obtain ⟨v, h1, h2⟩ := h.2 (R - m) i (by omega) hi
  unfold fA
  rw [h1, Option.getD_some]
  rw [show R - (R - m) = m by omega] at h2
  exact h2
theorem fA_at {p : A_Paragraph} {R : Nat} {l : List Int} (h : PotOK p R l) {m i : Nat} (hm : m ≤ R) (hi : i ≤ p.Tokens.length) : atI l (((R - m) * (p.Tokens.length + 1) + i : Nat) : Int) = some (fA l p.Tokens.length R m i) := by
  obtain ⟨v, h1, h2⟩ := h.2 (R - m) i (by omega) hi
  unfold fA
  rw [h1, Option.getD_some]
  exact getI h1
theorem least_row {p : A_Paragraph} (hv : Pv p) {R k i : Nat} (hk : k ≤ R) (hR : R ≤ 4) {f : List (List Int)} (hf : TabOK p R f) (hi : i ≤ p.Tokens.length) {z : List Int} :
    ∃ e, iter (g_rowbreak_Break_s3 ((i : Int), z) (f.take (R - k + 1))) (-1, 0) = some e ∧ Lst (PA p (R - k) i) e := by
  have hlen : (f.take (R - k + 1)).length = R - k + 1 := by rw [List.length_take, hf.1]; omega
  refine iter_post (fun x => ∃ t : Nat, x.2 = (t : Int) ∧ t ≤ R - k + 1 ∧ ((t = 0 ∧ x.1 = -1) ∨ ∃ t', t = t' + 1 ∧ Lst (PA p t' i) x.1)) (fun x => R - k + 1 - x.2.toNat) (fun e => Lst (PA p (R - k) i) e) (x := (-1, 0)) ⟨0, rfl, by omega, .inl ⟨rfl, rfl⟩⟩ (by show R - k + 1 - _ < _; omega) ?_
  rintro ⟨b, x⟩ ⟨t, hx, ht, hb⟩
  dsimp only at hx hb ⊢
  subst hx
  unfold g_rowbreak_Break_s3
  dsimp only
  rw [hlen]
  by_cases hlt : t < R - k + 1
  · left
    obtain ⟨row, h1, h2⟩ := fE_at hf (r := t) (i := i) (by omega) hi
    have hE := fE_ok hf t i (by omega) hi
    have hbd := lst_bd (by omega) hE
    have h1' : atI (f.take (R - k + 1)) (t : Int) = some row := by
      rw [atI_nat (by omega), List.getElem_take]
      rw [atI_nat (by rw [hf.1]; omega)] at h1
      exact h1
    rw [if_pos (by simp; omega), h1', wr64 (x := (t : Int) + 1) (by omega)]
    simp only [Option.bind_some]
    rw [h2]
    simp only [Option.bind_some]
    generalize fE f t i = v at *
    have hnew : Lst (PA p t i) (if v = -1 then b else if b = -1 ∨ v < b then v else b) := by
      rcases hb with ⟨rfl, rfl⟩ | ⟨t', rfl, hL⟩
      · have h0 := atm_0 hE
        by_cases e : v = -1
        · rw [if_pos e]; rw [e] at h0; exact h0
        · rw [if_neg e, if_pos (.inl rfl)]; exact h0
      · exact atm_join hL hE
    have hcond : (if (v != -1) = true then if (b == -1) = true then some true else some (decide (v < b)) else some false : Option Bool) = some (decide (v ≠ -1 ∧ (b = -1 ∨ v < b))) := by
      by_cases e1 : v = -1
      · simp [e1]
      · by_cases e2 : b = -1
        · simp [e1, e2]
        · simp [e1, e2]
    rw [hcond]
    simp only [Option.bind_some]
    by_cases e1 : v = -1
    · rw [if_pos e1] at hnew
      rw [if_neg (by simp [e1])]
      exact ⟨_, rfl, ⟨t + 1, rfl, by omega, .inr ⟨t, rfl, hnew⟩⟩, by dsimp only; omega⟩
    · rw [if_neg e1] at hnew
      by_cases e2 : b = -1 ∨ v < b
      · rw [if_pos e2] at hnew
        rw [if_pos (by simp [e1, e2])]
        exact ⟨_, rfl, ⟨t + 1, rfl, by omega, .inr ⟨t, rfl, hnew⟩⟩, by dsimp only; omega⟩
      · rw [if_neg e2] at hnew
        rw [if_neg (by simp [e1]; omega)]
        exact ⟨_, rfl, ⟨t + 1, rfl, by omega, .inr ⟨t, rfl, hnew⟩⟩, by dsimp only; omega⟩
  · right
    rw [if_neg (by simp; omega)]
    refine ⟨_, rfl, ?_⟩
    rcases hb with ⟨rfl, _⟩ | ⟨t', rfl, hL⟩
    · omega
    · rw [show R - k = t' by omega]; exact hL
def PotTo (p : A_Paragraph) (R k i : Nat) (l : List Int) : Prop := l.length = k * (p.Tokens.length + 1) + i ∧ ∀ k' i', k' ≤ R → i' ≤ p.Tokens.length → (k' < k ∨ k' = k ∧ i' < i) → PotAt p R l k' i'
theorem pots_row {p : A_Paragraph} (hv : Pv p) {R k : Nat} (hR : p.Rows = (R : Int)) (hk : k ≤ R) {f : List (List Int)} (hf : TabOK p R f) {y : List Int} (hy : y.length = p.Tokens.length + 1) {l0 : List Int} (h0 : PotTo p R k 0 l0) :
    ∃ e, iter (g_rowbreak_Break_s2 p f ((k : Int), l0) y) (0, l0) = some e ∧ PotTo p R (k + 1) 0 e := by
  have hn := hv.ok.toks
  have hrw := hv.rows
  refine iter_post (fun x => ∃ i : Nat, x.1 = (i : Int) ∧ i ≤ p.Tokens.length + 1 ∧ PotTo p R k i x.2) (fun x => p.Tokens.length + 1 - x.1.toNat) (PotTo p R (k + 1) 0) (x := (0, l0)) ⟨0, rfl, by omega, h0⟩ (by show p.Tokens.length + 1 - _ < _; omega) ?_
  rintro ⟨x, l⟩ ⟨i, hx, hi, hl⟩
  dsimp only at hx hl ⊢
  subst hx
  unfold g_rowbreak_Break_s2
  dsimp only
  rw [hy]
  by_cases hlt : i ≤ p.Tokens.length
  · left
    have hb := idx_bd hn (show k ≤ 5 by omega) hlt
    obtain ⟨v, he, hL⟩ := least_row hv hk (by omega) hf hlt (z := l)
    have hsub : subH f (IntKind.i64.wrap (IntKind.i64.wrap (p.Rows - (k : Int)) + 1)) = some (f.take (R - k + 1)) := by
      rw [hR, wr64 (x := (R : Int) - k) (by omega), wr64 (by omega)]
      unfold subH
      rw [if_pos (by have := hf.1; omega)]
      congr 2
      omega
    rw [if_pos (by simp; omega), hsub]
    simp only [Option.bind_some]
    rw [he]
    simp only [Option.bind_some]
    rw [if_pos (by rw [hl.1]; omega), wr64 (x := (i : Int) + 1) (by omega)]
    refine ⟨_, rfl, ⟨i + 1, rfl, by omega, by simp [hl.1]; omega, fun k' i' h1 h2 h3 => ?_⟩, by dsimp only; omega⟩
    by_cases e : k' = k ∧ i' = i
    · obtain ⟨rfl, rfl⟩ := e
      exact ⟨v, by dsimp only; rw [List.getElem?_append_right (by rw [hl.1]; omega), hl.1]; simp, hL⟩
    · obtain ⟨w, hw, hLw⟩ := hl.2 k' i' h1 h2 (by omega)
      refine ⟨w, ?_, hLw⟩
      dsimp only
      rw [List.getElem?_append_left (List.getElem?_eq_some_iff.1 hw).1]
      exact hw
  · right
    rw [if_neg (by simp; omega)]
    refine ⟨_, rfl, ?_, fun k' i' h1 h2 h3 => hl.2 k' i' h1 h2 (by omega)⟩
    rw [hl.1, Nat.add_mul]; omega
theorem pots_key {p : A_Paragraph} (hv : Pv p) {R : Nat} (hR : p.Rows = (R : Int)) {f : List (List Int)} (hf : TabOK p R f) : ∃ e, iter (g_rowbreak_Break_s1 p f) (0, []) = some e ∧ PotOK p R e := by
  have hn := hv.ok.toks
  have hrw := hv.rows
  have hfl := hf.1
  refine iter_post (fun x => ∃ k : Nat, x.1 = (k : Int) ∧ k ≤ R + 1 ∧ PotTo p R k 0 x.2) (fun x => R + 1 - x.1.toNat) (PotOK p R) (x := (0, [])) ⟨0, rfl, by omega, by simp, fun k' i' _ _ h => by omega⟩ (by show R + 1 - _ < _; omega) ?_
  rintro ⟨x, l⟩ ⟨k, hx, hk, hl⟩
  dsimp only at hx hl ⊢
  subst hx
  unfold g_rowbreak_Break_s1
  dsimp only
  rw [hfl]
  by_cases hlt : k ≤ R
  · left
    obtain ⟨row, h1, h2⟩ := hf.2 0 (by omega)
    have h1 := getI h1
    simp only [Int.natCast_zero] at h1
    obtain ⟨e, he, hl2⟩ := pots_row hv hR hlt hf h2.1 hl
    rw [if_pos (by simp; omega), h1, wr64 (x := (k : Int) + 1) (by omega)]
    simp only [Option.bind_some]
    rw [he]
    exact ⟨_, rfl, ⟨k + 1, rfl, by omega, hl2⟩, by dsimp only; omega⟩
  · right
    obtain rfl : k = R + 1 := by omega
    rw [if_neg (by simp)]
    exact ⟨_, rfl, by rw [hl.1]; omega, fun k' i' h1 h2 => hl.2 k' i' h1 h2 (by omega)⟩
theorem rows_key {p : A_Paragraph} (hv : Pv p) {R : Nat} (hR : p.Rows = (R : Int)) {f : List (List Int)} (hf : TabOK p R f) {y : Int} (hy : Lst (PA p R 0) y) (h1 : y ≠ -1) :
    ∃ r : Nat, iter (g_rowbreak_Break_s4 f y) 0 = some (r : Int) ∧ 1 ≤ r ∧ r ≤ R ∧ fE f r 0 = y ∧ Tight (fE f) r 0 := by
  have hn := hv.ok.toks
  have hrw := hv.rows
  have hne : 1 ≤ p.Tokens.length := List.length_pos_iff.2 hv.ne
  have hE := fE_ok hf
  obtain ⟨hy0, ⟨s, hs, hps⟩, hmin⟩ := hy.mem h1
  have hex : fE f s 0 = y := by
    have a := (hE s 0 hs (by omega)).has hps
    have b := (hE s 0 hs (by omega)).mem a.1
    have c := hmin _ ⟨s, hs, b.2.1⟩
    have := a.2.2; omega
  have key : ∃ e, iter (g_rowbreak_Break_s4 f y) 0 = some e ∧ ∃ r : Nat, e = (r : Int) ∧ r ≤ R ∧ fE f r 0 = y ∧ ∀ t, t < r → fE f t 0 ≠ y := by
    refine iter_post (fun x => ∃ r : Nat, x = (r : Int) ∧ r ≤ s ∧ ∀ t, t < r → fE f t 0 ≠ y) (fun x => R + 1 - x.toNat) (fun e => ∃ r : Nat, e = (r : Int) ∧ r ≤ R ∧ fE f r 0 = y ∧ ∀ t, t < r → fE f t 0 ≠ y) (x := 0) ⟨0, rfl, by omega, fun t ht => by omega⟩ (by show R + 1 - _ < _; omega) ?_
    rintro x ⟨r, rfl, hr, ht⟩
    unfold g_rowbreak_Break_s4
    obtain ⟨row, a1, a2⟩ := fE_at hf (r := r) (i := 0) (by omega) (by omega)
    simp only [Int.natCast_zero] at a2
    rw [a1]
    simp only [Option.bind_some]
    rw [a2]
    simp only [Option.bind_some]
    by_cases e : fE f r 0 = y
    · right
      rw [if_neg (by simpa using e)]
      exact ⟨_, rfl, r, rfl, by omega, e, ht⟩
    · left
      rw [if_pos (by simpa using e), wr64 (by omega)]
      have : r ≠ s := fun q => e (by rw [q]; exact hex)
      refine ⟨_, rfl, ⟨r + 1, rfl, by omega, fun t h => ?_⟩, by omega⟩
      by_cases q : t = r
      · rw [q]; exact e
      · exact ht t (by omega)
  obtain ⟨e, h2, r, rfl, h3, h4, h5⟩ := key
  refine ⟨r, h2, ?_, h3, h4, ?_⟩
  · rcases Nat.eq_zero_or_pos r with q | q
    · subst q
      have := ((hE 0 0 (by omega) (by omega)).mem (by rw [h4]; exact h1)).2.1
      have := (pth_zero.1 this).1
      omega
    · exact q
  · refine ⟨by rw [h4]; exact h1, fun t ht => ?_⟩
    by_cases q : fE f t 0 = -1
    · exact .inl q
    · right
      have a := (hE t 0 (by omega) (by omega)).mem q
      have b := hmin _ ⟨t, by omega, a.2.1⟩
      have := h5 t ht
      rw [h4]; omega
theorem refrows_key {p : A_Paragraph} (hv : Pv p) {R r : Nat} (hR : p.Rows = (R : Int)) {f : List (List Int)} (hf : TabOK p R f) (h1 : 1 ≤ r) (hr : r ≤ R) (ht : Tight (fE f) r 0) : iter (g_ref36_Break_s1 p (fE f r 0)) 1 = some (r : Int) := by
  have hn := hv.ok.toks
  have hrw := hv.rows
  have hE := fE_ok hf
  refine iter_of (fun x e => e = (r : Int) ∧ ∃ m : Nat, x = (m : Int) ∧ 1 ≤ m ∧ m ≤ r) (fun x => r + 1 - x.toNat) ?_ ⟨rfl, 1, rfl, by omega, h1⟩ (by show r + 1 - _ < _; omega)
  rintro x e ⟨rfl, m, rfl, hm1, hm2⟩
  unfold g_ref36_Break_s1
  obtain ⟨l, hl, hok⟩ := pot_eq (Pv_q hv (r := (m : Int)) (by omega))
  have hok := PotOK_q hok
  rw [show (parQ p (m : Int)).Rows.toNat = m by show ((m : Int)).toNat = m; omega] at hok
  have e1 : (A_Paragraph.mk p.Tokens p.Width (m : Int) p.Table) = parQ p (m : Int) := rfl
  rw [e1, hl]
  simp only [Option.bind_some]
  have hat := fA_at hok (m := m) (i := 0) (Nat.le_refl _) (by omega)
  have hA := fA_ok hok m 0 (Nat.le_refl _) (by omega)
  rw [Nat.sub_self, Nat.zero_mul, Nat.zero_add] at hat
  simp only [Int.natCast_zero] at hat
  rw [hat]
  simp only [Option.bind_some]
  by_cases q : m = r
  · right
    subst q
    have := tight_A (A := fun a b => fA l p.Tokens.length m a b) (R := m) (fun a b ha hb => hE a b (by omega) hb) (fun a b ha hb => fA_ok hok a b ha hb) (Nat.le_refl _) (by omega) ht
    rw [this]
    simp
  · left
    have hne : fA l p.Tokens.length m m 0 ≠ fE f r 0 := fun e => by
      obtain ⟨_, ⟨s, hs, hps⟩, _⟩ := hA.mem (by rw [e]; exact ht.1)
      have a := (hE s 0 (by omega) (by omega)).has hps
      rw [e] at a
      rcases ht.2 s (by omega) with b | b
      · exact a.1 b
      · have := a.2.2; omega
    rw [if_neg (by simpa using hne), wr64 (by omega)]
    exact ⟨_, rfl, ⟨by first | rfl | trivial, m + 1, rfl, by omega, by omega⟩, by omega⟩
def inl (L : List Nat) : List Int := L.map fun (j : Nat) => (j : Int)
theorem ends_inner {p : A_Paragraph} (hv : Pv p) {R : Nat} (hR : R ≤ 4) {f : List (List Int)} (hf : TabOK p R f) {r i j : Nat} (hr : r + 1 ≤ R) (hij : i < j) (hj : j ≤ p.Tokens.length) (hok : OkS (fitP p) (cPr p) (fE f) r i j) (hno : ∀ k, i < k → k < j → ¬ OkS (fitP p) (cPr p) (fE f) r i k) {z : List Int} :
    ∃ e, iter (g_rowbreak_Break_s6 (shP p (aimP p)) f (((r + 1 : Nat) : Int), (i : Int), z)) ((i : Int) + 1) = some e ∧ e.1 = (j : Int) := by
  have hn := hv.ok.toks
  have hE := fE_ok hf
  refine iter_post (fun x => ∃ k : Nat, x = (k : Int) ∧ i < k ∧ k ≤ j) (fun x => j + 1 - x.toNat) (fun e => Prod.fst e = (j : Int)) ⟨i + 1, rfl, by omega, by omega⟩ (by show j + 1 - _ < _; omega) ?_
  rintro x ⟨k, rfl, hk1, hk2⟩
  unfold g_rowbreak_Break_s6
  dsimp only
  rw [fits_eq hv.ok _ (by omega) (by omega)]
  simp only [Option.bind_some]
  obtain ⟨row, a1, a2⟩ := fE_at hf (r := r) (i := k) (by omega) (by omega)
  obtain ⟨row', b1, b2⟩ := fE_at hf (r := r + 1) (i := i) (by omega) (by omega)
  have hbd := lst_bd (by omega) (hE r k (by omega) (by omega))
  have hc := cPr_le p i k
  rw [wr64 (x := ((r + 1 : Nat) : Int) - 1) (by omega), show ((r + 1 : Nat) : Int) - 1 = (r : Int) by omega, wr64 (x := (k : Int) + 1) (by omega), a1]
  simp only [Option.bind_some]
  rw [a2]
  simp only [Option.bind_some]
  rw [cost_eq hv.ok hk1 (by omega), b1]
  simp only [Option.bind_some]
  rw [b2]
  simp only [Option.bind_some]
  rw [wr64 (x := cPr p i k + fE f r k) (by omega)]
  by_cases e : k = j
  · right
    subst e
    rw [if_pos hok.1, if_neg (by simpa using hok.2.1), if_neg (by simpa using hok.2.2)]
    exact ⟨_, rfl, rfl⟩
  · left
    have hnk := hno k hk1 (by omega)
    refine ⟨((k + 1 : Nat) : Int), ?_, ⟨k + 1, rfl, by omega, by omega⟩, by omega⟩
    cases hf2 : fitP p i k
    · rfl
    · rw [if_pos rfl]
      by_cases q1 : fE f r k = -1
      · rw [if_pos (by simpa using q1)]; rfl
      · have q2 : cPr p i k + fE f r k ≠ fE f (r + 1) i := fun h => hnk ⟨hf2, q1, h⟩
        rw [if_neg (by simpa using q1), if_pos (by simpa using q2)]; rfl
theorem ends_prog {p : A_Paragraph} (hv : Pv p) {R : Nat} (hR : R ≤ 4) {f : List (List Int)} (hf : TabOK p R f) {r : Nat} {G : List Nat} (hr : r ≤ R) (hG : Gr p.Tokens.length (fitP p) (cPr p) (fE f) r 0 G) :
    iter (g_rowbreak_Break_s5 (shP p (aimP p)) f) ((r : Int), 0, []) = some (inl G) := by
  have hn := hv.ok.toks
  refine iter_of (fun x e => e = inl G ∧ ∃ (r i : Nat) (L : List Nat), x.1 = (r : Int) ∧ x.2.1 = (i : Int) ∧ r ≤ R ∧ i ≤ p.Tokens.length ∧ Gr p.Tokens.length (fitP p) (cPr p) (fE f) r i L ∧ x.2.2 ++ inl L = inl G ∧ x.2.2.length + r ≤ 4) (fun x => x.1.toNat) ?_ (x := ((r : Int), 0, [])) ⟨rfl, r, 0, G, rfl, rfl, hr, by omega, hG, rfl, by simp; omega⟩ (by show ((r : Int)).toNat < _; omega)
  rintro ⟨x, y, acc⟩ e ⟨rfl, r, i, L, hx, hy, hr, hi, hg, hacc, hl⟩
  dsimp only at hx hy hacc hl ⊢
  subst hx hy
  unfold g_rowbreak_Break_s5
  dsimp only
  cases hg with
  | nil =>
    right
    rw [if_neg (by simp), ← hacc]
    simp [inl]
  | @cons r i j L a1 a2 a3 a4 a5 =>
    left
    obtain ⟨e, he, hej⟩ := ends_inner hv hR hf hr a1 a2 a3 a4 (z := acc)
    rw [if_pos (by first | (simp; done) | (simp; omega)), wr64 (x := (i : Int) + 1) (by omega), he]
    simp only [Option.bind_some]
    rw [if_pos (by omega), hej, wr64 (by omega)]
    refine ⟨_, rfl, ⟨by first | rfl | trivial, r, j, L, by dsimp only; omega, rfl, by omega, a2, a5, ?_, by simp; omega⟩, by dsimp only; omega⟩
    dsimp only
    rw [← hacc]
    simp [inl]
theorem refends_inner {p : A_Paragraph} (hv : Pv p) {R r0 k : Nat} (hR : R ≤ 4) {f : List (List Int)} (hf : TabOK p R f) {l : List Int} (hl : PotOK p r0 l) {r i j : Nat} (h0 : r0 ≤ R) (hk : r0 = k + (r + 1)) (hij : i < j) (hj : j ≤ p.Tokens.length) (ht : Tight (fE f) (r + 1) i) (hok : OkS (fitP p) (cPr p) (fE f) r i j) (hno : ∀ k, i < k → k < j → ¬ OkS (fitP p) (cPr p) (fE f) r i k) {z : List Int} (hz : z.length ≤ 10) :
    iter (g_ref36_Break_s3 p l ((i : Int), (k : Int), z)) ((i : Int) + 1) = some (z ++ [(j : Int)], (j : Int)) := by
  have hn := hv.ok.toks
  have hE := fE_ok hf
  refine iter_of (fun x e => e = (z ++ [(j : Int)], (j : Int)) ∧ ∃ m : Nat, x = (m : Int) ∧ i < m ∧ m ≤ j) (fun x => j + 1 - x.toNat) ?_ ⟨rfl, i + 1, rfl, by omega, by omega⟩ (by show j + 1 - _ < _; omega)
  rintro x e ⟨rfl, m, rfl, hm1, hm2⟩
  unfold g_ref36_Break_s3
  dsimp only
  have a1 := fA_at hl (m := r) (i := m) (by omega) (by omega)
  have a2 := fA_at hl (m := r + 1) (i := i) (by omega) (by omega)
  rw [show r0 - r = k + 1 by omega] at a1
  rw [show r0 - (r + 1) = k by omega] at a2
  have hbd := lstA_bd (by omega) (fA_ok hl r m (by omega) (by omega))
  have hc := cPr_le p i m
  rw [if_pos (by simp; omega), wr64 (x := (k : Int) + 1) (by omega), show ((k : Int) + 1) = ((k + 1 : Nat) : Int) by omega, idx_w hn (by omega) (by omega), idx_w hn (by omega) (by omega), a1]
  simp only [Option.bind_some]
  rw [refFits_eq hv.ok hm1 (by omega), refRow_eq hv.ok hm1 (by omega), a2]
  simp only [Option.bind_some]
  rw [wr64 (x := cPr p i m + fA l p.Tokens.length r0 r m) (by omega), wr64 (x := (m : Int) + 1) (by omega)]
  have hcond := tight_cond (A := fun a b => fA l p.Tokens.length r0 a b) (R := r0) (fun a b ha hb => hE a b (by omega) hb) (fun a b ha hb => fA_ok hl a b ha hb) (r := r) (i := i) (j := m) (by omega) hm1 (by omega) ht
  have e1 : (if fitP p i m = true then if decide (0 ≤ fA l p.Tokens.length r0 r m) = true then some (cPr p i m + fA l p.Tokens.length r0 r m == fA l p.Tokens.length r0 (r + 1) i) else some false else some false : Option Bool) = some (decide (fitP p i m = true ∧ 0 ≤ fA l p.Tokens.length r0 r m ∧ cPr p i m + fA l p.Tokens.length r0 r m = fA l p.Tokens.length r0 (r + 1) i)) := by
    cases fitP p i m
    · simp
    · by_cases q : 0 ≤ fA l p.Tokens.length r0 r m
      · by_cases q2 : cPr p i m + fA l p.Tokens.length r0 r m = fA l p.Tokens.length r0 (r + 1) i
        · simp [q, q2]
        · simp [q, q2]
      · simp [q]
  rw [e1]
  simp only [Option.bind_some]
  by_cases e : m = j
  · right
    subst e
    rw [if_pos (by rw [decide_eq_true_iff]; exact hcond.2 hok), if_pos (by omega)]
  · left
    rw [if_neg (by rw [decide_eq_true_iff]; exact fun h => hno m hm1 (by omega) (hcond.1 h))]
    exact ⟨_, rfl, ⟨by first | rfl | trivial, m + 1, rfl, by omega, by omega⟩, by omega⟩
theorem ends_ref {p : A_Paragraph} (hv : Pv p) {R r0 : Nat} (hR : R ≤ 4) {f : List (List Int)} (hf : TabOK p R f) {l : List Int} (hl : PotOK p r0 l) (h0 : r0 ≤ R) (ht : Tight (fE f) r0 0) {G : List Nat} (hG : Gr p.Tokens.length (fitP p) (cPr p) (fE f) r0 0 G) :
    iter (g_ref36_Break_s2 p l) (0, 0, []) = some (inl G) := by
  have hn := hv.ok.toks
  have hE := fE_ok hf
  refine iter_of (fun x e => e = inl G ∧ ∃ (k r i : Nat) (L : List Nat), x.1 = (i : Int) ∧ x.2.1 = (k : Int) ∧ r0 = k + r ∧ i ≤ p.Tokens.length ∧ Gr p.Tokens.length (fitP p) (cPr p) (fE f) r i L ∧ Tight (fE f) r i ∧ x.2.2 ++ inl L = inl G ∧ x.2.2.length = k) (fun x => r0 + 1 - x.2.1.toNat) ?_ (x := (0, 0, [])) ⟨rfl, 0, r0, 0, G, rfl, rfl, by omega, by omega, hG, ht, rfl, rfl⟩ (by show r0 + 1 - _ < _; omega)
  rintro ⟨x, y, acc⟩ e ⟨rfl, k, r, i, L, hx, hy, hr, hi, hg, hti, hacc, hlen⟩
  dsimp only at hx hy hacc hlen ⊢
  subst hx hy
  unfold g_ref36_Break_s2
  dsimp only
  cases hg with
  | nil =>
    right
    rw [if_neg (by simp), ← hacc]
    simp [inl]
  | @cons r i j L a1 a2 a3 a4 a5 =>
    left
    rw [if_pos (by simp; omega), wr64 (x := (i : Int) + 1) (by omega), refends_inner hv hR hf hl h0 hr a1 a2 hti a3 a4 (by omega)]
    simp only [Option.bind_some]
    rw [wr64 (by omega)]
    refine ⟨_, rfl, ⟨by first | rfl | trivial, k + 1, r, j, L, rfl, rfl, by omega, a2, a5, ?_, ?_, by simp; omega⟩, by dsimp only; omega⟩
    · exact tight_next (R := R) hE (by omega) a1 a2 hti a3
    · dsimp only
      rw [← hacc]
      simp [inl]
theorem Break_both {p : A_Paragraph} (h : Pok p) : ∃ b e, g_rowbreak_Break p = some (b, e) ∧ g_ref36_Break p = some (b, e) ∧ b.Ends.length ≤ 4 ∧ (e = 0 → ckP p = 0 ∧ 0 ≤ b.Cost ∧ b.Cost ≤ 264000000 ∧ ∃ (r : Nat) (x : Int), (r : Int) ≤ p.Rows ∧ PP p r 0 x) := by
  unfold g_rowbreak_Break g_ref36_Break
  rw [par_prog h, par_ref h]
  simp only [Option.bind_some]
  by_cases h0 : ckP p = 0
  rotate_left
  · rw [if_pos (by simpa using h0), if_pos (by simpa using h0)]
    exact ⟨_, _, rfl, rfl, by simp, fun e => absurd e h0⟩
  rw [if_neg (by simpa using h0), if_neg (by simpa using h0)]
  have hv := ckP_0 h h0
  have hn := h.toks
  have hrw := hv.rows
  obtain ⟨R, hR⟩ : ∃ R : Nat, p.Rows = (R : Int) := ⟨p.Rows.toNat, by omega⟩
  have hRn : p.Rows.toNat = R := by rw [hR]; rfl
  obtain ⟨f, hf, htab⟩ := exact_eq hv
  obtain ⟨l, hl, hpot⟩ := pot_eq hv
  rw [hRn] at htab hpot
  obtain ⟨l', hl', hpot'⟩ := pots_key hv hR htab
  obtain rfl := pot_uniq hpot hpot'
  rw [open_eq h]
  simp only [Option.bind_some]
  rw [hf, hl]
  simp only [Option.bind_some]
  rw [hl']
  simp only [Option.bind_some]
  have hA := fA_ok hpot R 0 (Nat.le_refl _) (by omega)
  have hat := fA_at hpot (m := R) (i := 0) (Nat.le_refl _) (by omega)
  rw [Nat.sub_self, Nat.zero_mul, Nat.zero_add] at hat
  simp only [Int.natCast_zero] at hat
  rw [hat]
  simp only [Option.bind_some]
  generalize fA l p.Tokens.length R R 0 = y at *
  have hyb := lstA_bd (by omega) hA
  by_cases hy : y = -1
  · rw [if_pos (by simpa using hy), if_pos (by simp; omega)]
    exact ⟨_, _, rfl, rfl, by simp, fun e => by cases e⟩
  · rw [if_neg (by simpa using hy), if_neg (by simp; omega)]
    obtain ⟨r, k1, k2, k3, k4, k5⟩ := rows_key hv hR htab hA hy
    obtain ⟨G, hG⟩ := gr_exists (R := R) (fE_ok htab) r 0 k3 (by omega) (by rw [k4]; exact hy)
    have k6 := refrows_key hv hR htab k2 k3 k5
    rw [k4] at k6
    obtain ⟨l2, m1, m2⟩ := pot_eq (Pv_q hv (r := (r : Int)) (by omega))
    have m2 := PotOK_q m2
    rw [show (parQ p (r : Int)).Rows.toNat = r by show ((r : Int)).toNat = r; omega] at m2
    have e1 : (A_Paragraph.mk p.Tokens p.Width (r : Int) p.Table) = parQ p (r : Int) := rfl
    rw [k1, k6]
    simp only [Option.bind_some]
    rw [e1, m1, ends_prog hv (by omega) htab k3 hG]
    simp only [Option.bind_some]
    rw [ends_ref hv (by omega) htab m2 k3 k5 hG]
    refine ⟨_, _, rfl, rfl, by have := gr_len hG; simp [inl]; omega, fun _ => ⟨h0, by dsimp only; omega, by dsimp only; omega, r, y, by omega, ?_⟩⟩
    have := (fE_ok htab r 0 k3 (by omega)).mem (by rw [k4]; exact hy)
    rw [k4] at this
    exact this.2.1
end Go.Proofs.YtalfcmgcjdkolaaGreatDoor
namespace Go.Proofs.YtalfcmgcjdkolaaGreatDoor
set_option maxRecDepth 100000
set_option maxHeartbeats 10000000
theorem sum_loop {α : Type} (l : List α) (tx : α → List UInt8) (len : List UInt8 → Option Int) (hn : l.length ≤ 8) (ht : ∀ a ∈ l, (tx a).length ≤ 1048576) (hlen : ∀ a ∈ l, len (tx a) = some (chL (tx a))) {step : Int × Int → Option (Nx (Int × Int) Int)}
    (hst : ∀ x, step x = (if (decide (x.2 < (l.length : Int))) then ((atI l x.2).bind fun y => ((len (tx y)).bind fun r => (some (.go ((IntKind.i64.wrap (x.1 + r)), (IntKind.i64.wrap (x.2 + 1))))))) else (some (.out x.1)))) :
    iter step (0, 0) = some ((l.map fun a => chL (tx a)).sum) := by
  refine iter_of (fun x e => e = (l.map fun a => chL (tx a)).sum ∧ ∃ i : Nat, x.2 = (i : Int) ∧ i ≤ l.length ∧ x.1 + ((l.drop i).map fun a => chL (tx a)).sum = (l.map fun a => chL (tx a)).sum ∧ -(i : Int) ≤ x.1 ∧ x.1 ≤ (i : Int) * 1048576) (fun x => l.length - x.2.toNat) ?_ (x := (0, 0)) ⟨rfl, 0, rfl, by omega, by simp, by simp, by simp⟩ (by show l.length - 0 < _; omega)
  rintro ⟨a, x⟩ e ⟨rfl, i, hx, hi, hs, h1, h2⟩
  dsimp only at hx hs h1 h2 ⊢
  subst hx
  rw [hst]
  dsimp only
  by_cases h : i < l.length
  · left
    have hb := chL_le _ (ht _ (List.getElem_mem h))
    rw [if_pos (by simpa using h), atI_nat h, wr64 (x := (i : Int) + 1) (by omega)]
    simp only [Option.bind_some]
    rw [hlen _ (List.getElem_mem h)]
    simp only [Option.bind_some]
    rw [wr64 (by omega)]
    rw [List.drop_eq_getElem_cons h, List.map_cons, List.sum_cons] at hs
    exact ⟨_, rfl, ⟨by first | rfl | trivial, i + 1, rfl, h, by dsimp only; omega, by dsimp only; omega, by dsimp only; omega⟩, by dsimp only; omega⟩
  · right
    rw [if_neg (by simpa using h)]
    rw [List.drop_eq_nil_of_le (by omega)] at hs
    simp at hs
    rw [hs]
theorem smP_sum (p : A_Paragraph) : ∀ k, k ≤ p.Tokens.length → smP p k = ((p.Tokens.take k).map fun t => chL t.Text).sum
  | 0, _ => by simp [smP]
  | k + 1, h => by
    rw [show smP p (k + 1) = smP p k + tlen p k from rfl, smP_sum p k (by omega), tlen_at p (by omega), List.take_add_one, List.getElem?_eq_getElem (by omega), List.map_append, List.sum_append]
    congr 1
    simp
theorem pp_room {p : A_Paragraph} (hw : 0 ≤ p.Width) : ∀ {r i : Nat} {x : Int}, PP p r i x → smP p p.Tokens.length - smP p i + ((p.Tokens.length : Int) - i) ≤ (r : Int) * (p.Width + 1) := by
  intro r i x h
  induction h with
  | nil => simp
  | @cons r i j x a1 a2 a3 a4 ih =>
    unfold fitP lnP at a3
    simp only [decide_eq_true_eq] at a3
    have e : ((r + 1 : Nat) : Int) * (p.Width + 1) = (r : Int) * (p.Width + 1) + (p.Width + 1) := by rw [Int.natCast_add, Int.add_mul]; omega
    omega
theorem ckWs_at : ∀ {a : Int} {l : List A_Word}, ckWs a l = 0 → ∀ i (h : i < l.length), (l[i].Text ≠ [] ∧ hasSp l[i].Text = false ∧ gv l[i].Text = true ∧ 0 ≤ l[i].Span.In ∧ l[i].Span.In < l[i].Span.Out ∧ l[i].Span.Out ≤ 5184000) ∧ (∀ h0 : 0 < i, (l[i - 1]'(by omega)).Span.Out ≤ l[i].Span.In) ∧ (i = 0 → a ≤ l[i].Span.In)
  | a, [], h, i, hi => by simp at hi
  | a, w :: l, h, i, hi => by
    unfold ckWs at h
    by_cases hw : ckW w a = 0
    · rw [if_neg (by omega)] at h
      have hwf : (w.Text ≠ [] ∧ hasSp w.Text = false ∧ gv w.Text = true ∧ 0 ≤ w.Span.In ∧ w.Span.In < w.Span.Out ∧ w.Span.Out ≤ 5184000) ∧ a ≤ w.Span.In := by
        unfold ckW at hw
        by_cases h1 : w.Text = [] ∨ hasSp w.Text = true
        · rw [if_pos h1] at hw; cases hw
        rw [if_neg h1] at hw
        by_cases h2 : gv w.Text = false
        · rw [if_pos h2] at hw; cases hw
        rw [if_neg h2] at hw
        by_cases h3 : w.Span.In < 0 ∨ w.Span.Out ≤ w.Span.In ∨ 5184000 < w.Span.Out
        · rw [if_pos h3] at hw; cases hw
        rw [if_neg h3] at hw
        by_cases h4 : w.Span.In < a
        · rw [if_pos h4] at hw; cases hw
        refine ⟨⟨fun e => h1 (.inl e), ?_, by simpa using h2, by omega, by omega, by omega⟩, by omega⟩
        cases hh : hasSp w.Text
        · rfl
        · exact absurd (.inr hh) h1
      cases i with
      | zero => exact ⟨hwf.1, fun h0 => by omega, fun _ => hwf.2⟩
      | succ i =>
        have ih := ckWs_at h i (by simpa using hi)
        refine ⟨ih.1, fun _ => ?_, fun e => by omega⟩
        cases i with
        | zero => exact ih.2.2 rfl
        | succ i => exact ih.2.1 (by omega)
    · rw [if_pos hw] at h; exact absurd h hw
theorem words_mono {a : Int} {l : List A_Word} (h : ckWs a l = 0) {i : Nat} : ∀ {j : Nat} (hij : i ≤ j) (hj : j < l.length), (l[i]'(by omega)).Span.In ≤ l[j].Span.In ∧ (l[i]'(by omega)).Span.Out ≤ l[j].Span.Out
  | 0, hij, hj => by
    obtain rfl : i = 0 := by omega
    exact ⟨Int.le_refl _, Int.le_refl _⟩
  | j + 1, hij, hj => by
    by_cases e : i = j + 1
    · subst e; exact ⟨Int.le_refl _, Int.le_refl _⟩
    · have ih := words_mono h (i := i) (j := j) (by omega) (by omega)
      have a1 := (ckWs_at h (j + 1) hj).2.1 (by omega)
      have a2 := (ckWs_at h (j + 1) hj).1
      have a3 := (ckWs_at h j (by omega)).1
      simp only [Nat.add_sub_cancel] at a1
      omega
structure Sv (s : A_Speech) : Prop where
  ok : Sok s
  rate : rtV s.Rate = true
  ne : s.Words ≠ []
  words : ckWs 0 s.Words = 0
  table : pcS s.Table = 0
  house : okR s.House
theorem ckS_0 {p : A_Profile} (h : ckS p = 0) : okR p := by
  unfold ckS at h
  by_cases h1 : isNm p.Name = false
  · rw [if_pos h1] at h; cases h
  rw [if_neg h1] at h
  by_cases h2 : okR p
  · exact h2
  · rw [if_pos h2] at h; cases h
theorem ckSp_0 {s : A_Speech} (h : Sok s) (h0 : ckSp s = 0) : Sv s := by
  unfold ckSp at h0
  by_cases h1 : rtV s.Rate = false
  · rw [if_pos h1] at h0; cases h0
  rw [if_neg h1] at h0
  by_cases h2 : s.Words = []
  · rw [if_pos h2] at h0; cases h0
  rw [if_neg h2] at h0
  by_cases h3 : ckWs 0 s.Words = 0
  rotate_left
  · rw [if_pos h3] at h0; exact absurd h0 h3
  rw [if_neg (by omega)] at h0
  by_cases h4 : shC s.Shots = 0
  rotate_left
  · rw [if_pos h4] at h0; exact absurd h0 h4
  rw [if_neg (by omega)] at h0
  by_cases h5 : pcS s.Table = 0
  rotate_left
  · rw [if_pos h5] at h0; exact absurd h0 h5
  rw [if_neg (by omega)] at h0
  exact ⟨h, by simpa using h1, h2, h3, h5, ckS_0 h0⟩
def psp (s : A_Speech) (i j : Nat) : A_Paragraph := ⟨tkP s.Words i j, s.House.Cols, s.House.Rows, s.Table⟩
theorem psp_ok {s : A_Speech} (h : Sok s) {i j : Nat} (hj : j ≤ s.Words.length) : Pok (psp s i j) := by
  refine ⟨?_, fun t ht => ?_⟩
  · have := tkP_len s.Words (i := i) hj
    have := h.words
    show (tkP s.Words i j).length ≤ 8
    omega
  · obtain ⟨k, hk, rfl⟩ := List.getElem_of_mem ht
    have hk' : k < (tkP s.Words i j).length := hk
    have hl := tkP_len s.Words (i := i) hj
    show ((tkP s.Words i j)[k]).Text.length ≤ 1048576
    rw [tkP_at s.Words hj hk', tkA_text s.Words (show i + k < s.Words.length by omega)]
    exact h.texts _ (List.getElem_mem _)
theorem zero_le_needS (r c l : Int) (hr : 0 ≤ r ∧ r ≤ 255) (hc : 0 ≤ c) (hc2 : c ≤ 800) : 0 ≤ (needS r c l).1 ∧ (needS r c l).1 ≤ 5184000 := by
  obtain ⟨_, _, _, e4⟩ := rates r hr.1 hr.2
  unfold needS
  cases hv : rtV r with
  | false => simp
  | true =>
    obtain ⟨_, t0, t1⟩ := e4 hv
    cases h1 : wiB c 0 10000 with
    | false => simp
    | true =>
      cases h2 : wiB l 1 10000 with
      | false => simp
      | true =>
        have hl := wiB_t h2
        obtain ⟨m1, m2⟩ := mul_small 10000 hl.1 hl.2 t0 t1 (by omega)
        have m3 : 2002 ≤ l * rtT r := by
          have : 1 * rtT r ≤ l * rtT r := Int.mul_le_mul_of_nonneg_right hl.1 (by omega)
          omega
        simp only [if_true, Bool.and_self]
        refine ⟨?_, (upQ_le (by omega) (by omega)).2 ?_⟩
        · unfold upQ; exact Int.tdiv_nonneg (by omega) (by omega)
        · have := Int.mul_le_mul_of_nonneg_left m3 (show (0 : Int) ≤ 5184000 by omega)
          omega
theorem maxe (x : Int) : (if x > 0 then x else 0) = (if 0 > x then 0 else x) := by
  split <;> split <;> omega
def zPt : A_Part := ⟨0, 0, [], ⟨0, 0⟩⟩
theorem tkP_text (ws : List A_Word) {i j : Nat} (hj : j ≤ ws.length) : ((tkP ws i j).map fun t => chL t.Text) = (((ws.drop i).take (j - i)).map fun w => chL w.Text) := by
  refine List.ext_getElem (by simp [tkP, tks]) fun k h1 h2 => ?_
  have hl := tkP_len ws (i := i) hj
  simp only [List.length_map] at h1 h2
  rw [List.getElem_map, List.getElem_map, tkP_at ws hj h1, tkA_text ws (by omega)]
  simp
def BrFin (p : A_Paragraph) (b : A_Breaks) : Prop := ckP p = 0 ∧ 0 ≤ b.Cost ∧ b.Cost ≤ 264000000 ∧ ∃ (r : Nat) (x : Int), (r : Int) ≤ p.Rows ∧ PP p r 0 x
theorem Break_both2 {p : A_Paragraph} (h : Pok p) : ∃ b e, g_rowbreak_Break p = some (b, e) ∧ g_ref36_Break p = some (b, e) ∧ b.Ends.length ≤ 4 ∧ (e = 0 → BrFin p b) := Break_both h
theorem part_both {s : A_Speech} (hs : Sv s) {i j : Nat} (hij : i < j) (hj : j ≤ s.Words.length) : ∃ q : A_Part × Int × Int, g_segment_part s (tks s.Words) (i : Int) (j : Int) = some q ∧ (g_ref38_Check s = some 0 → g_ref38_Part s (i : Int) (j : Int) = some q) ∧ q.1.Breaks.length ≤ 4 ∧
    (q.2.2 = 0 → q.1.From = (i : Int) ∧ q.1.To = (j : Int) ∧ 0 ≤ q.2.1 ∧ q.2.1 ≤ 30000000000000 ∧ smP (psp s i j) (j - i) + ((j : Int) - i) ≤ s.House.Rows * (s.House.Cols + 1)) := by
  have h := hs.ok
  have hn := h.words
  have hP := psp_ok h (i := i) hj
  have hlen : (psp s i j).Tokens.length = j - i := tkP_len s.Words hj
  obtain ⟨b, e, hb1, hb2, hbe, hb3⟩ := Break_both2 hP
  have hi' : i < s.Words.length := by omega
  have hj' : j - 1 < s.Words.length := by omega
  have wi := ckWs_at hs.words i hi'
  have wj := ckWs_at hs.words (j - 1) hj'
  have wm := words_mono hs.words (show i ≤ j - 1 by omega) hj'
  have wi := wi.1
  have wj := wj.1
  have hfalse : (if (decide ((i : Int) < 0)) then (some true) else (if (decide ((j : Int) ≤ (i : Int))) then (some true) else (some (decide (((tks s.Words).length : Int) < (j : Int))))) : Option Bool) = some false := by
    rw [if_neg (by simp), if_neg (by simp; omega), tks_len]
    simp; omega
  have hfalse2 : (if (decide ((i : Int) < 0)) then (some true) else (if (decide ((j : Int) ≤ (i : Int))) then (some true) else (some (decide ((s.Words.length : Int) < (j : Int))))) : Option Bool) = some false := by
    rw [if_neg (by simp), if_neg (by simp; omega)]
    simp; omega
  have ej : IntKind.i64.wrap ((j : Int) - 1) = ((j - 1 : Nat) : Int) := by rw [wr64 (by omega)]; omega
  have ed : IntKind.i64.wrap ((j : Int) - (i : Int)) = ((j - i : Nat) : Int) := by rw [wr64 (by omega)]; omega
  have ai := atI_nat hi'
  have aj := atI_nat hj'
  obtain ⟨Wi, hWi⟩ : ∃ Wi, s.Words[i] = Wi := ⟨_, rfl⟩
  obtain ⟨Wj, hWj⟩ : ∃ Wj, s.Words[j - 1] = Wj := ⟨_, rfl⟩
  rw [hWi] at wi ai wm
  rw [hWj] at wj aj wm
  obtain ⟨fr, hfr⟩ : ∃ fr, Wj.Span.Out - Wi.Span.In = fr := ⟨_, rfl⟩
  have hfrb : 0 ≤ fr ∧ fr ≤ 5184000 := by omega
  have ef : IntKind.i64.wrap (Wj.Span.Out - Wi.Span.In) = fr := by rw [hfr]; exact wr64 (by omega)
  have hsub : subI (tks s.Words) (i : Int) (j : Int) = some (tkP s.Words i j) := by
    unfold subI tkP
    rw [if_pos (by have := tks_len s.Words; omega)]
    simp only [Int.toNat_natCast]
  have hwsub : subI s.Words (i : Int) (j : Int) = some ((s.Words.drop i).take (j - i)) := by
    unfold subI
    rw [if_pos (by omega)]
    simp only [Int.toNat_natCast]
  have hpar : g_ref38_paragraph s (i : Int) (j : Int) = some (psp s i j) := paragraph_eq h (Nat.le_of_lt hij) hj
  have hpsp : (A_Paragraph.mk (tkP s.Words i j) s.House.Cols s.House.Rows s.Table) = psp s i j := rfl
  have hv : ∃ v : Bool, (if (decide (1 < ((j - i : Nat) : Int))) then (some (decide (s.House.MxF < fr))) else (some false) : Option Bool) = some v := by
    split
    · exact ⟨_, rfl⟩
    · exact ⟨_, rfl⟩
  obtain ⟨v, hv⟩ := hv
  cases v
  rotate_left
  · refine ⟨(zPt, 0, 2), ?_, fun hc => ?_, by simp [zPt], fun e => by cases e⟩
    · simp only [g_segment_part, hfalse, ej, ed, ef, ai, aj, hv, Option.bind_some, Bool.false_eq_true, if_false, if_true, zPt]
    · simp only [g_ref38_Part, hc, bne_self_eq_false, hfalse2, ej, ed, ef, ai, aj, hv, Option.bind_some, Bool.false_eq_true, if_false, if_true, zPt]
  by_cases he : e = 0
  rotate_left
  · have hb : (e != 0) = true := by simpa using he
    refine ⟨(zPt, 0, e), ?_, fun hc => ?_, by simp [zPt], fun q => absurd q he⟩
    · simp only [g_segment_part, hfalse, ej, ed, ef, ai, aj, hv, hsub, g_segment_paragraph, hpsp, hb1, hb, Option.bind_some, Bool.false_eq_true, if_false, if_true, zPt]
    · simp only [g_ref38_Part, hc, bne_self_eq_false, hfalse2, ej, ed, ef, ai, aj, hv, hpar, hb2, hb, Option.bind_some, Bool.false_eq_true, if_false, if_true, zPt]
  have hb3 := hb3 he
  unfold BrFin at hb3
  obtain ⟨hck, hc0, hc1, r, x, hr, hpp⟩ := hb3
  have hpv := ckP_0 hP hck
  have hbne : (e != 0) = false := by simp [he]
  have hroom := pp_room (by have := hpv.width; omega) hpp
  have hrows := hpv.rows
  have hwid := hpv.width
  have hmulr : (r : Int) * ((psp s i j).Width + 1) ≤ (psp s i j).Rows * ((psp s i j).Width + 1) := Int.mul_le_mul_of_nonneg_right hr (by omega)
  have hmulr2 : (psp s i j).Rows * ((psp s i j).Width + 1) ≤ 4 * ((psp s i j).Width + 1) := Int.mul_le_mul_of_nonneg_right (by omega) (by omega)
  have hsm := smP_lt hpv (i := 0) (j := (psp s i j).Tokens.length) (by omega) (Nat.le_refl _)
  have hs0 : smP (psp s i j) 0 = 0 := rfl
  rw [hs0] at hsm hroom
  have hC : ((psp s i j).Tokens.map fun t => chL t.Text).sum = smP (psp s i j) (psp s i j).Tokens.length := by
    rw [smP_sum _ _ (Nat.le_refl _), List.take_length]
  have hC2 : (((s.Words.drop i).take (j - i)).map fun w => chL w.Text).sum = smP (psp s i j) (psp s i j).Tokens.length := by
    rw [← tkP_text s.Words hj]; exact hC
  obtain ⟨C, hCC⟩ : ∃ C, smP (psp s i j) (psp s i j).Tokens.length = C := ⟨_, rfl⟩
  rw [hCC] at hC hC2 hsm hroom
  have hCb : 0 ≤ C ∧ C ≤ 131 := by omega
  have l1 : iter (g_segment_load_s1 ((s.Words.drop i).take (j - i))) (0, 0) = some C := by
    rw [← hC2]
    exact sum_loop _ (fun w => w.Text) g_charset_Len (by simp; omega) (fun a ha => h.texts a (List.mem_of_mem_drop (List.mem_of_mem_take ha))) (fun a ha => len_prog _ (h.texts a (List.mem_of_mem_drop (List.mem_of_mem_take ha)))) (fun x => rfl)
  have l2 : iter (g_ref38_Part_s1 (psp s i j)) (0, 0) = some C := by
    rw [← hC]
    exact sum_loop _ (fun t => t.Text) g_ref08_Len hP.toks hP.texts (fun a ha => len_ref _ (hP.texts a ha)) (fun x => rfl)
  obtain ⟨nd1, nd2⟩ := Needed_eq s.Rate C s.House.Reading h.rate.1 h.rate.2
  have ndb := zero_le_needS s.Rate C s.House.Reading h.rate hCb.1 (by omega)
  obtain ⟨ins, hin, hil⟩ := inside_total s.Shots ⟨Wi.Span.In, Wj.Span.Out⟩ (by have := h.shots; omega)
  have hsh := h.shots
  have t1 : atI (tks s.Words) (((j - 1 : Nat) : Int)) = some (tkA s.Words (j - 1)) := by
    rw [atI_nat (by rw [tks_len]; omega), tks_at]
  have t2 : atI (psp s i j).Tokens (IntKind.i64.wrap (((j - i : Nat) : Int) - 1)) = some (tkA s.Words (j - 1)) := by
    rw [wr64 (by omega), show (((j - i : Nat) : Int) - 1) = ((j - i - 1 : Nat) : Int) by omega, atI_nat (by rw [hlen]; omega)]
    have := tkP_at s.Words hj (i := i) (k := j - i - 1) (by rw [tkP_len s.Words hj]; omega)
    rw [show i + (j - i - 1) = j - 1 by omega] at this
    exact congrArg some this
  have hstr := tkA_str s.Words (i := j - 1) (by omega) h.texts
  have hho := hs.house
  unfold okR at hho
  obtain ⟨nd, hnd⟩ : ∃ nd, needS s.Rate C s.House.Reading = nd := ⟨_, rfl⟩
  rw [hnd] at nd1 nd2 ndb
  have enf : IntKind.i64.wrap (nd.1 - fr) = nd.1 - fr := wr64 (by omega)
  have hroom2 : smP (psp s i j) (j - i) + ((j : Int) - i) ≤ s.House.Rows * (s.House.Cols + 1) := by
    rw [hlen] at hCC hroom
    rw [hCC]
    have e1 : (psp s i j).Rows = s.House.Rows := rfl
    have e2 : (psp s i j).Width = s.House.Cols := rfl
    rw [e1, e2] at hmulr
    rw [e2] at hroom
    omega
  obtain ⟨fa, hfa⟩ : ∃ fa, (if 0 > nd.1 - fr then 0 else nd.1 - fr) = fa := ⟨_, rfl⟩
  have hfab : 0 ≤ fa ∧ fa ≤ 5184000 := by rw [← hfa]; split <;> omega
  have hld : ∀ g : Int, 0 ≤ g → g ≤ 5184000 → ∀ la : Bool, okLd ⟨fa, g, (ins.length : Int), (tkA s.Words (j - 1)).Sg, la⟩ = true := fun g g0 g1 la => by
    unfold okLd wiB
    simp only [Bool.and_eq_true, decide_eq_true_eq]
    omega
  have hev : ∀ l : A_Load, okLd l = true → ((evS s.Table l).2 != 0) = false := fun l hl => by
    unfold evS
    rw [if_neg (by rw [hs.table]; simp), if_pos hl]; rfl
  by_cases hlast : j = s.Words.length
  · have hbq : ((j : Int) == (s.Words.length : Int)) = true := by simp [hlast]
    have hl2 := hev _ (hld 0 (by omega) (by omega) true)
    have hcb := evS_le s.Table ⟨fa, 0, (ins.length : Int), (tkA s.Words (j - 1)).Sg, true⟩
    obtain ⟨ev, hevv⟩ : ∃ ev, evS s.Table ⟨fa, 0, (ins.length : Int), (tkA s.Words (j - 1)).Sg, true⟩ = ev := ⟨_, rfl⟩
    rw [hevv] at hcb hl2
    have hw : IntKind.i64.wrap (b.Cost + ev.1) = b.Cost + ev.1 := wr64 (by omega)
    have hload : g_segment_load s (tks s.Words) (i : Int) (j : Int) = some ⟨fa, 0, (ins.length : Int), (tkA s.Words (j - 1)).Sg, true⟩ := by
      simp only [g_segment_load, ej, ai, aj, hwsub, Option.bind_some, l1, nd1, hin, t1, hbq, if_true, ef, enf, maxe, hfa]
    refine ⟨(⟨(i : Int), (j : Int), b.Ends, ⟨Wi.Span.In, Wj.Span.Out⟩⟩, b.Cost + ev.1, 0), ?_, fun hc => ?_, hbe, fun _ => ⟨rfl, rfl, by dsimp only; omega, by dsimp only; omega, hroom2⟩⟩
    · simp only [g_segment_part, hfalse, ej, ed, ef, ai, aj, hv, hsub, g_segment_paragraph, hpsp, hb1, hbne, Option.bind_some, Bool.false_eq_true, if_false, if_true, hload, ev_prog, hevv, hl2, hw]
    · simp only [g_ref38_Part, hc, bne_self_eq_false, hfalse2, ej, ed, ef, ai, aj, hv, hpar, hb2, hbne, Option.bind_some, Bool.false_eq_true, if_false, if_true, l2, nd2, ref_inside, hin, t2, hbq, enf, hfa, ev_ref, hevv, hw]
  · have hbq : ((j : Int) == (s.Words.length : Int)) = false := by
      simpa using (by omega : ¬ (j : Int) = (s.Words.length : Int))
    have hj2 : j < s.Words.length := by omega
    have an := atI_nat hj2
    have wn := ckWs_at hs.words j hj2
    have wg := wn.2.1 (by omega)
    have wn := wn.1
    rw [hWj] at wg
    obtain ⟨Wn, hWn⟩ : ∃ Wn, s.Words[j] = Wn := ⟨_, rfl⟩
    rw [hWn] at wn an wg
    have eg : IntKind.i64.wrap (Wn.Span.In - Wj.Span.Out) = Wn.Span.In - Wj.Span.Out := wr64 (by omega)
    have eg2 : IntKind.i64.wrap (s.House.MinGap - (Wn.Span.In - Wj.Span.Out)) = s.House.MinGap - (Wn.Span.In - Wj.Span.Out) := wr64 (by omega)
    obtain ⟨g, hgg⟩ : ∃ g, (if 0 > s.House.MinGap - (Wn.Span.In - Wj.Span.Out) then 0 else s.House.MinGap - (Wn.Span.In - Wj.Span.Out)) = g := ⟨_, rfl⟩
    have hgb : 0 ≤ g ∧ g ≤ 5184000 := by rw [← hgg]; split <;> omega
    have hl2 := hev _ (hld g hgb.1 hgb.2 false)
    have hcb := evS_le s.Table ⟨fa, g, (ins.length : Int), (tkA s.Words (j - 1)).Sg, false⟩
    obtain ⟨ev, hevv⟩ : ∃ ev, evS s.Table ⟨fa, g, (ins.length : Int), (tkA s.Words (j - 1)).Sg, false⟩ = ev := ⟨_, rfl⟩
    rw [hevv] at hcb hl2
    have hw : IntKind.i64.wrap (b.Cost + ev.1) = b.Cost + ev.1 := wr64 (by omega)
    have hload : g_segment_load s (tks s.Words) (i : Int) (j : Int) = some ⟨fa, g, (ins.length : Int), (tkA s.Words (j - 1)).Sg, false⟩ := by
      simp only [g_segment_load, ej, ai, aj, an, hwsub, Option.bind_some, l1, nd1, hin, t1, hbq, Bool.false_eq_true, if_false, ef, enf, maxe, hfa, eg, eg2, hgg]
    refine ⟨(⟨(i : Int), (j : Int), b.Ends, ⟨Wi.Span.In, Wj.Span.Out⟩⟩, b.Cost + ev.1, 0), ?_, fun hc => ?_, hbe, fun _ => ⟨rfl, rfl, by dsimp only; omega, by dsimp only; omega, hroom2⟩⟩
    · simp only [g_segment_part, hfalse, ej, ed, ef, ai, aj, hv, hsub, g_segment_paragraph, hpsp, hb1, hbne, Option.bind_some, Bool.false_eq_true, if_false, if_true, hload, ev_prog, hevv, hl2, hw]
    · simp only [g_ref38_Part, hc, bne_self_eq_false, hfalse2, ej, ed, ef, ai, aj, an, hv, hpar, hb2, hbne, Option.bind_some, Bool.false_eq_true, if_false, if_true, l2, nd2, ref_inside, hin, t2, hbq, enf, hfa, eg, eg2, hgg, ev_ref, hevv, hw]
end Go.Proofs.YtalfcmgcjdkolaaGreatDoor
namespace Go.Proofs.YtalfcmgcjdkolaaGreatDoor
set_option maxRecDepth 100000
set_option maxHeartbeats 10000000
theorem awake38 : g_law38_awake = some true := by decide +kernel
structure Szs (s : A_Speech) : Prop where
  rate : 0 ≤ s.Rate ∧ s.Rate ≤ 255
  texts : ∀ w ∈ s.Words, w.Text.length ≤ 1048576
  name : s.House.Name.length ≤ 1048576
  forb : s.House.Fbd.length ≤ 1048576
theorem subH_take {α : Type} (l : List α) (k : Nat) : subH l (if (k : Int) < (l.length : Int) then (k : Int) else (l.length : Int)) = some (l.take k) := by
  unfold subH
  split
  · rename_i h
    rw [if_pos (by omega), Int.toNat_natCast, Nat.sub_zero, List.drop_zero]
  · rename_i h
    rw [if_pos (by omega), Int.toNat_natCast, Nat.sub_zero, List.drop_zero, List.take_length, List.take_of_length_le (by omega)]
theorem few_eq {s : A_Speech} (h : Szs s) : ∃ s', g_law38_few s = some s' ∧ Sok s' := by
  refine ⟨⟨s.Rate, s.Words.take 8, s.Shots.take 6, s.Table, s.House⟩, ?_, h.rate, ?_, fun w hw => h.texts w (List.mem_of_mem_take hw), ?_, h.name, h.forb⟩
  · unfold g_law38_few
    have a := subH_take s.Words 8
    have b := subH_take s.Shots 6
    simp only [Int.cast_ofNat_Int] at a b
    rw [a, b]; rfl
  · simp; omega
  · simp; omega
theorem eqI_same (l : List Int) (hl : l.length ≤ 1000000) : g_slices_Equal_int_int l l = some true := by
  unfold g_slices_Equal_int_int
  rw [if_neg (by simp)]
  have key := iter_idx (step := g_slices_Equal_int_int_s1 l l) l.length (by omega) (fun _ => .inr ()) (fun i hi => ?_) ?_
  · rw [key]; rfl
  · left
    unfold g_slices_Equal_int_int_s1
    rw [if_pos (by simpa using hi), atI_nat hi, wr64 (by omega)]
    simp
  · unfold g_slices_Equal_int_int_s1
    rw [if_neg (by simp)]
theorem same_refl (a : A_Part) (h : a.Breaks.length ≤ 1000000) : g_law38_same a a = some true := by
  unfold g_law38_same
  simp only [beq_self_eq_true, if_true, Bool.and_self, eqI_same _ h, Option.bind_some]
end Go.Proofs.YtalfcmgcjdkolaaGreatDoor
namespace Go.Proofs.YtalfcmgcjdkolaaGreatDoor
set_option maxRecDepth 100000
set_option maxHeartbeats 10000000
def pq (s : A_Speech) (i j : Nat) : A_Part × Int × Int := (g_segment_part s (tks s.Words) (i : Int) (j : Int)).getD (zPt, 0, 1)
theorem pq_eq {s : A_Speech} (hs : Sv s) {i j : Nat} (hij : i < j) (hj : j ≤ s.Words.length) : g_segment_part s (tks s.Words) (i : Int) (j : Int) = some (pq s i j) ∧ (g_ref38_Check s = some 0 → g_ref38_Part s (i : Int) (j : Int) = some (pq s i j)) ∧ (pq s i j).1.Breaks.length ≤ 4 ∧
    ((pq s i j).2.2 = 0 → (pq s i j).1.From = (i : Int) ∧ (pq s i j).1.To = (j : Int) ∧ 0 ≤ (pq s i j).2.1 ∧ (pq s i j).2.1 ≤ 30000000000000 ∧ smP (psp s i j) (j - i) + ((j : Int) - i) ≤ s.House.Rows * (s.House.Cols + 1)) := by
  obtain ⟨q, h1, h2⟩ := part_both hs hij hj
  unfold pq
  rw [h1]
  exact ⟨rfl, h2⟩
theorem sum_loop2 {α : Type} (l : List α) (tx : α → List UInt8) (len : List UInt8 → Option Int) (a0 : Int) (ha0 : 0 ≤ a0 ∧ a0 ≤ 100) (hn : l.length ≤ 8) (ht : ∀ a ∈ l, (tx a).length ≤ 1048576) (hlen : ∀ a ∈ l, len (tx a) = some (chL (tx a))) {step : Int × Int → Option (Nx (Int × Int) Int)}
    (hst : ∀ x, step x = (if (decide (x.2 < (l.length : Int))) then ((atI l x.2).bind fun y => ((len (tx y)).bind fun r => (some (.go ((IntKind.i64.wrap (x.1 + r)), (IntKind.i64.wrap (x.2 + 1))))))) else (some (.out x.1)))) :
    iter step (a0, 0) = some (a0 + (l.map fun a => chL (tx a)).sum) := by
  refine iter_of (fun x e => e = a0 + (l.map fun a => chL (tx a)).sum ∧ ∃ i : Nat, x.2 = (i : Int) ∧ i ≤ l.length ∧ x.1 + ((l.drop i).map fun a => chL (tx a)).sum = a0 + (l.map fun a => chL (tx a)).sum ∧ -(i : Int) ≤ x.1 ∧ x.1 ≤ (i : Int) * 1048576 + 100) (fun x => l.length - x.2.toNat) ?_ (x := (a0, 0)) ⟨rfl, 0, rfl, by omega, by simp, by dsimp only; omega, by dsimp only; omega⟩ (by show l.length - 0 < _; omega)
  rintro ⟨a, x⟩ e ⟨rfl, i, hx, hi, hs, h1, h2⟩
  dsimp only at hx hs h1 h2 ⊢
  subst hx
  rw [hst]
  dsimp only
  by_cases h : i < l.length
  · left
    have hb := chL_le _ (ht _ (List.getElem_mem h))
    rw [if_pos (by simpa using h), atI_nat h, wr64 (x := (i : Int) + 1) (by omega)]
    simp only [Option.bind_some]
    rw [hlen _ (List.getElem_mem h)]
    simp only [Option.bind_some]
    rw [wr64 (by omega)]
    rw [List.drop_eq_getElem_cons h, List.map_cons, List.sum_cons] at hs
    exact ⟨_, rfl, ⟨by first | rfl | trivial, i + 1, rfl, h, by dsimp only; omega, by dsimp only; omega, by dsimp only; omega⟩, by dsimp only; omega⟩
  · right
    rw [if_neg (by simpa using h)]
    rw [List.drop_eq_nil_of_le (by omega)] at hs
    simp at hs
    rw [hs]
def wsum (s : A_Speech) (i j : Nat) : Int := (((s.Words.drop i).take (j - i)).map fun w => chL w.Text).sum
theorem wsum_psp {s : A_Speech} {i j : Nat} (hj : j ≤ s.Words.length) : smP (psp s i j) (j - i) = wsum s i j := by
  have hlen : (psp s i j).Tokens.length = j - i := tkP_len s.Words hj
  rw [smP_sum _ _ (by omega)]
  unfold wsum
  rw [← tkP_text s.Words hj, ← hlen, List.take_length]
  rfl
theorem wsum_succ (s : A_Speech) {i j : Nat} (hij : i ≤ j) (hj : j < s.Words.length) : wsum s i (j + 1) = wsum s i j + chL s.Words[j].Text := by
  unfold wsum
  rw [show j + 1 - i = (j - i) + 1 by omega, List.take_add_one, List.getElem?_drop, show i + (j - i) = j by omega, List.getElem?_eq_getElem hj, List.map_append, List.sum_append]
  simp
theorem wsum_mono {s : A_Speech} (hs : Sv s) {i : Nat} : ∀ {j k : Nat}, i ≤ j → j ≤ k → k ≤ s.Words.length → wsum s i j + ((k : Int) - j) ≤ wsum s i k
  | j, 0, h1, h2, h3 => by
    obtain rfl : j = 0 := by omega
    simp
  | j, k + 1, h1, h2, h3 => by
    by_cases e : j = k + 1
    · subst e; omega
    · have ih := wsum_mono hs (i := i) (j := j) (k := k) h1 (by omega) (by omega)
      have w := (ckWs_at hs.words k (by omega)).1
      have := chL_pos w.2.2.1 w.1
      rw [wsum_succ s (by omega) (by omega)]
      omega
theorem tlen_eq {s : A_Speech} (h : Sok s) {i j : Nat} (hij : i < j) (hj : j ≤ s.Words.length) : g_token_Len (tks s.Words) (i : Int) (j : Int) = some ((j : Int) - i - 1 + wsum s i j) := by
  have hn := h.words
  unfold g_token_Len
  rw [show (if (decide ((i : Int) < 0)) then (some true) else (if (decide ((j : Int) < (i : Int))) then (some true) else (some (decide (((tks s.Words).length : Int) < (j : Int))))) : Option Bool) = some false by
    rw [if_neg (by simp), if_neg (by simp; omega), tks_len]; simp; omega]
  have hsub : subI (tks s.Words) (i : Int) (j : Int) = some (tkP s.Words i j) := by
    unfold subI tkP
    rw [if_pos (by have := tks_len s.Words; omega)]
    simp only [Int.toNat_natCast]
  have e0 : (if IntKind.i64.wrap (IntKind.i64.wrap ((j : Int) - i) - 1) > 0 then IntKind.i64.wrap (IntKind.i64.wrap ((j : Int) - i) - 1) else 0) = (j : Int) - i - 1 := by
    rw [wr64 (x := (j : Int) - i) (by omega), wr64 (by omega)]
    split <;> omega
  simp only [Option.bind_some, Bool.false_eq_true, if_false, hsub, e0]
  have hlen := tkP_len s.Words (i := i) hj
  have hP := psp_ok h (i := i) hj
  have key : iter (g_token_Len_s1 (tkP s.Words i j)) ((j : Int) - i - 1, 0) = some ((j : Int) - i - 1 + ((tkP s.Words i j).map fun t => chL t.Text).sum) :=
    sum_loop2 (tkP s.Words i j) (fun t => t.Text) g_charset_Len _ (by omega) (by omega) hP.texts (fun a ha => len_prog _ (hP.texts a ha)) (fun x => rfl)
  rw [key, tkP_text s.Words hj]
  rfl
def okE (s : A_Speech) (i j : Nat) : Bool := (pq s i j).2.2 == 0
def fl (s : A_Speech) (i : Nat) : List Nat := (List.range' (i + 1) (s.Words.length - i)).filter (okE s i)
def edge (s : A_Speech) (i j : Nat) : T_segment_edge := ⟨(pq s i j).1, (pq s i j).2.1⟩
def ed (s : A_Speech) (i : Nat) : List T_segment_edge := (fl s i).map (edge s i)
theorem fl_mem {s : A_Speech} {i j : Nat} : j ∈ fl s i ↔ i < j ∧ j ≤ s.Words.length ∧ okE s i j = true := by
  unfold fl
  rw [List.mem_filter, List.mem_range']
  constructor
  · rintro ⟨⟨k, h1, h2⟩, h3⟩
    exact ⟨by omega, by omega, h3⟩
  · rintro ⟨h1, h2, h3⟩
    exact ⟨⟨j - i - 1, by omega, by omega⟩, h3⟩
theorem fl_sorted (s : A_Speech) (i : Nat) : (fl s i).Pairwise (· < ·) := List.Pairwise.filter _ (List.pairwise_lt_range' (step := 1) (by omega))
theorem fl_len (s : A_Speech) (i : Nat) : (fl s i).length ≤ s.Words.length := by
  unfold fl
  have := List.length_filter_le (okE s i) (List.range' (i + 1) (s.Words.length - i))
  rw [List.length_range'] at this
  omega
theorem most_eq {s : A_Speech} (hs : Sv s) : IntKind.i64.wrap (s.House.Rows * IntKind.i64.wrap (s.House.Cols + 1)) = s.House.Rows * (s.House.Cols + 1) := by
  have hh := hs.house
  unfold okR at hh
  have h1 : 0 ≤ s.House.Rows * (s.House.Cols + 1) ∧ s.House.Rows * (s.House.Cols + 1) ≤ 4 * 33 := mulb (by omega) (by omega)
  rw [wr64 (x := s.House.Cols + 1) (by omega), wr64 (by omega)]
theorem edges_row {s : A_Speech} (hs : Sv s) {i : Nat} (hi : i < s.Words.length) {acc : List (List T_segment_edge)} (ha : acc.length = i) :
    iter (g_segment_edges_s2 s (tks s.Words) ((i : Int), acc)) ((i : Int) + 1, []) = some (ed s i) := by
  have hn := hs.ok.words
  refine iter_of (fun x e => e = ed s i ∧ ∃ m : Nat, x.1 = ((i + 1 + m : Nat) : Int) ∧ i + 1 + m ≤ s.Words.length + 1 ∧ x.2 = ((List.range' (i + 1) m).filter (okE s i)).map (edge s i)) (fun x => s.Words.length + 1 - x.1.toNat) ?_ (x := ((i : Int) + 1, [])) ⟨rfl, 0, by dsimp only; omega, by omega, by simp⟩ (by show s.Words.length + 1 - _ < _; omega)
  rintro ⟨x, l⟩ e ⟨rfl, m, hx, hm, hl⟩
  dsimp only at hx hl ⊢
  subst hx hl
  unfold g_segment_edges_s2
  dsimp only
  rw [tks_len, most_eq hs]
  have hlenb : (((List.range' (i + 1) m).filter (okE s i)).map (edge s i)).length ≤ m := by
    have := List.length_filter_le (okE s i) (List.range' (i + 1) m)
    rw [List.length_range'] at this
    rw [List.length_map]; exact this
  -- what is behind the end has no event
  have hrest : (∀ j, i + 1 + m ≤ j → j ≤ s.Words.length → okE s i j = false) → ((List.range' (i + 1) m).filter (okE s i)).map (edge s i) = ed s i := fun hno => by
    unfold ed fl
    congr 1
    have e1 : s.Words.length - i = m + (s.Words.length - i - m) := by omega
    have hnil : (List.range' (i + 1 + m) (s.Words.length - i - m)).filter (okE s i) = [] := List.filter_eq_nil_iff.2 fun j hj => by
      obtain ⟨k, h1, h2⟩ := List.mem_range'.1 hj
      rw [hno j (by omega) (by omega)]; simp
    rw [e1, ← List.range'_append_1, List.filter_append, hnil, List.append_nil]
  by_cases hle : i + 1 + m ≤ s.Words.length
  · rw [if_pos (show decide (((i + 1 + m : Nat) : Int) ≤ (s.Words.length : Int)) = true by rw [decide_eq_true_iff]; omega), tlen_eq hs.ok (by omega) hle]
    simp only [Option.bind_some]
    by_cases hmost : ((i + 1 + m : Nat) : Int) - i - 1 + wsum s i (i + 1 + m) ≤ s.House.Rows * (s.House.Cols + 1)
    · left
      rw [if_pos (by simpa using hmost)]
      obtain ⟨q1, q2, q3, q4⟩ := pq_eq hs (i := i) (j := i + 1 + m) (by omega) hle
      rw [q1]
      simp only [Option.bind_some]
      rw [wr64 (x := ((i + 1 + m : Nat) : Int) + 1) (by omega)]
      have hsnoc : List.range' (i + 1) (m + 1) = List.range' (i + 1) m ++ [i + 1 + m] := List.range'_1_concat ..
      by_cases he : (pq s i (i + 1 + m)).2.2 = 0
      · have hok : okE s i (i + 1 + m) = true := by simp [okE, he]
        rw [if_pos (by simpa using he), if_pos ⟨by omega, by omega⟩, if_pos (by omega), if_pos ⟨by omega, by omega⟩]
        refine ⟨_, rfl, ⟨by first | rfl | trivial, m + 1, by dsimp only; omega, by omega, ?_⟩, by dsimp only; omega⟩
        dsimp only
        rw [hsnoc, List.filter_append, List.map_append]
        simp [hok, edge]
      · have hok : okE s i (i + 1 + m) = false := by simp [okE, he]
        rw [if_neg (by simpa using he)]
        refine ⟨_, rfl, ⟨by first | rfl | trivial, m + 1, by dsimp only; omega, by omega, ?_⟩, by dsimp only; omega⟩
        dsimp only
        rw [hsnoc, List.filter_append, List.map_append]
        simp [hok]
    · right
      rw [if_neg (by simpa using hmost)]
      congr 2
      refine hrest fun j h1 h2 => ?_
      cases hok : okE s i j
      · rfl
      · obtain ⟨_, _, _, q4⟩ := pq_eq hs (i := i) (j := j) (by omega) h2
        have q5 := (q4 (by simpa [okE] using hok)).2.2.2.2
        rw [wsum_psp h2] at q5
        have := wsum_mono hs (i := i) (j := i + 1 + m) (k := j) (by omega) h1 h2
        omega
  · right
    rw [if_neg (by simp; omega)]
    simp only [Option.bind_some, Bool.false_eq_true, if_false]
    congr 2
    exact hrest fun j h1 h2 => by omega
theorem edges_eq {s : A_Speech} (hs : Sv s) : g_segment_edges s = some ((List.range s.Words.length).map (ed s)) := by
  have hn := hs.ok.words
  unfold g_segment_edges
  rw [tokens_eq hs.ok]
  simp only [Option.bind_some, tks_len]
  rw [if_pos (by omega)]
  have key : iter (g_segment_edges_s1 s (tks s.Words)) (0, ([] : List (List T_segment_edge))) = some ((List.range s.Words.length).map (ed s)) := by
    refine iter_of (fun x e => e = (List.range s.Words.length).map (ed s) ∧ ∃ i : Nat, x.1 = (i : Int) ∧ i ≤ s.Words.length ∧ x.2 = (List.range i).map (ed s)) (fun x => s.Words.length - x.1.toNat) ?_ (x := (0, [])) ⟨rfl, 0, rfl, by omega, rfl⟩ (by show s.Words.length - 0 < _; omega)
    rintro ⟨x, acc⟩ e ⟨rfl, i, hx, hi, ha⟩
    dsimp only at hx ha ⊢
    subst hx ha
    unfold g_segment_edges_s1
    dsimp only
    rw [tks_len]
    have hl : ((List.range i).map (ed s)).length = i := by simp
    rw [hl]
    by_cases h : i < s.Words.length
    · left
      rw [if_pos (by simpa using h), if_pos h, wr64 (x := (i : Int) + 1) (by omega), edges_row hs h hl]
      simp only [Option.bind_some]
      rw [if_pos h]
      exact ⟨_, rfl, ⟨by first | rfl | trivial, i + 1, rfl, by omega, by dsimp only; rw [List.range_succ, List.map_append]; rfl⟩, by dsimp only; omega⟩
    · right
      obtain rfl : i = s.Words.length := by omega
      rw [if_neg (by simp), if_pos rfl]
  rw [key]; rfl
end Go.Proofs.YtalfcmgcjdkolaaGreatDoor
namespace Go.Proofs.YtalfcmgcjdkolaaGreatDoor
def lexlt (a b : Int × Int) : Prop := a.1 < b.1 ∨ a.1 = b.1 ∧ a.2 < b.2
instance (a b : Int × Int) : Decidable (lexlt a b) := by unfold lexlt; infer_instance
def Bst (S : Nat → Prop) (val : Nat → Int × Int) (v : Int × Int) (j : Nat) : Prop := (v = (-1, 0) ∧ ∀ x, ¬ S x) ∨ (S j ∧ v = val j ∧ ∀ x, S x → ¬ lexlt (val x) (val j) ∧ (x < j → lexlt (val j) (val x)))
theorem Bst.congr {S T : Nat → Prop} {val val' : Nat → Int × Int} {v : Int × Int} {j : Nat} (e : ∀ x, S x ↔ T x) (ev : ∀ x, S x → val x = val' x) (h : Bst S val v j) : Bst T val' v j := by
  rcases h with ⟨h1, h2⟩ | ⟨h1, h2, h3⟩
  · exact .inl ⟨h1, fun x hx => h2 x ((e x).2 hx)⟩
  · refine .inr ⟨(e j).1 h1, by rw [h2, ev j h1], fun x hx => ?_⟩
    have hx' := (e x).2 hx
    rw [← ev j h1, ← ev x hx']
    exact h3 x hx'
theorem Bst.none {S : Nat → Prop} {val : Nat → Int × Int} {j : Nat} (h : ∀ x, ¬ S x) : Bst S val (-1, 0) j := .inl ⟨rfl, h⟩
theorem Bst.step {S : Nat → Prop} {val : Nat → Int × Int} {v : Int × Int} {j J : Nat} (hJ : ∀ x, S x → x < J) (h0 : ∀ x, S x → 0 ≤ (val x).1) (h : Bst S val v j) :
    Bst (fun x => S x ∨ x = J) val (if v.1 = -1 ∨ lexlt (val J) v then val J else v) (if v.1 = -1 ∨ lexlt (val J) v then J else j) := by
  rcases h with ⟨h1, h2⟩ | ⟨h1, h2, h3⟩
  · have hv : v.1 = -1 := by rw [h1]
    rw [if_pos (.inl hv), if_pos (.inl hv)]
    refine .inr ⟨.inr rfl, rfl, fun x hx => ?_⟩
    rcases hx with hx | rfl
    · exact absurd hx (h2 x)
    · exact ⟨fun hl => by unfold lexlt at hl; omega, fun h => by omega⟩
  · have hv : ¬ v.1 = -1 := by have := h0 j h1; rw [h2]; omega
    have hjJ := hJ j h1
    by_cases hl : lexlt (val J) v
    · rw [if_pos (.inr hl), if_pos (.inr hl)]
      rw [h2] at hl
      refine .inr ⟨.inr rfl, rfl, fun x hx => ?_⟩
      rcases hx with hx | rfl
      · have := (h3 x hx).1
        unfold lexlt at *
        exact ⟨by omega, fun _ => by omega⟩
      · exact ⟨fun hl => by unfold lexlt at hl; omega, fun h => by omega⟩
    · rw [if_neg (by intro h; rcases h with h | h; exact hv h; exact hl h), if_neg (by intro h; rcases h with h | h; exact hv h; exact hl h)]
      refine .inr ⟨.inl h1, h2, fun x hx => ?_⟩
      rcases hx with hx | rfl
      · exact h3 x hx
      · rw [h2] at hl
        exact ⟨hl, fun h => by omega⟩
theorem Bst.uniq {S : Nat → Prop} {val : Nat → Int × Int} {v v' : Int × Int} {j j' : Nat} (h0 : ∀ x, S x → 0 ≤ (val x).1) (h : Bst S val v j) (h' : Bst S val v' j') : v = v' ∧ (v.1 ≠ -1 → j = j') := by
  rcases h with ⟨h1, h2⟩ | ⟨h1, h2, h3⟩
  · rcases h' with ⟨k1, _⟩ | ⟨k1, _, _⟩
    · exact ⟨by rw [h1, k1], fun h => by rw [h1] at h; exact absurd rfl h⟩
    · exact absurd k1 (h2 _)
  · rcases h' with ⟨_, k2⟩ | ⟨k1, k2, k3⟩
    · exact absurd h1 (k2 _)
    · have a := h3 j' k1
      have b := k3 j h1
      have e : val j = val j' := by
        unfold lexlt at a b
        refine Prod.ext ?_ ?_ <;> omega
      refine ⟨by rw [h2, k2, e], fun _ => ?_⟩
      rcases Nat.lt_trichotomy j j' with q | q | q
      · have := b.2 q; unfold lexlt at this; rw [e] at this; omega
      · exact q
      · have := a.2 q; unfold lexlt at this; rw [e] at this; omega
theorem Bst.some {S : Nat → Prop} {val : Nat → Int × Int} {v : Int × Int} {j : Nat} (h : Bst S val v j) (hv : v.1 ≠ -1) : S j ∧ v = val j ∧ ∀ x, S x → ¬ lexlt (val x) (val j) ∧ (x < j → lexlt (val j) (val x)) := by
  rcases h with ⟨h1, _⟩ | h
  · rw [h1] at hv; exact absurd rfl hv
  · exact h
section
variable (n : Nat) (ok : Nat → Nat → Bool) (c : Nat → Nat → Int)
def cnd (C : Nat → Int) (i j : Nat) : Prop := i < j ∧ j ≤ n ∧ ok i j = true ∧ C j ≠ -1
def vl (C Pn : Nat → Int) (i j : Nat) : Int × Int := (c i j + C j, Pn j + 1)
structure DPx (m : Nat) (C Pn : Nat → Int) (nx : Nat → Nat) : Prop where
  n0 : C n = 0
  p0 : Pn n = 0
  nn : ∀ k, m ≤ k → k ≤ n → -1 ≤ C k
  bst : ∀ k, m ≤ k → k < n → Bst (cnd n ok C k) (vl c C Pn k) (C k, Pn k) (nx k)
variable {n ok c}
theorem best_exists (hc : ∀ i j, ok i j = true → 0 ≤ c i j) {C Pn : Nat → Int} {i : Nat} (hC : ∀ k, i < k → k ≤ n → -1 ≤ C k) : ∀ m, ∃ v j, Bst (fun x => cnd n ok C i x ∧ x < i + 1 + m) (vl c C Pn i) v j
  | 0 => ⟨(-1, 0), 0, .none fun x hx => by have := hx.1.1; have := hx.2; omega⟩
  | m + 1 => by
    obtain ⟨v, j, h⟩ := best_exists hc hC (Pn := Pn) m
    by_cases hq : cnd n ok C i (i + 1 + m)
    · refine ⟨_, _, (h.step (J := i + 1 + m) (fun x hx => hx.2) (fun x hx => ?_)).congr (fun x => ?_) (fun _ _ => rfl)⟩
      · obtain ⟨a1, a2, a3, a4⟩ := hx.1
        have := hc i x a3; have := hC x a1 a2
        show 0 ≤ c i x + C x
        omega
      · constructor
        · rintro (hx | rfl)
          · exact ⟨hx.1, by omega⟩
          · exact ⟨hq, by omega⟩
        · rintro ⟨h1, h2⟩
          by_cases e : x = i + 1 + m
          · exact .inr e
          · exact .inl ⟨h1, by omega⟩
    · refine ⟨v, j, h.congr (fun x => ⟨fun hx => ⟨hx.1, by omega⟩, fun hx => ⟨hx.1, ?_⟩⟩) (fun _ _ => rfl)⟩
      have : x ≠ i + 1 + m := fun e => hq (e ▸ hx.1)
      have := hx.2; omega
theorem dp_exists (hc : ∀ i j, ok i j = true → 0 ≤ c i j) : ∀ m, m ≤ n → ∃ C Pn nx, DPx n ok c (n - m) C Pn nx
  | 0, _ => ⟨fun _ => 0, fun _ => 0, fun _ => 0, rfl, rfl, fun _ _ _ => by omega, fun k h1 h2 => by omega⟩
  | m + 1, hm => by
    obtain ⟨C, Pn, nx, h⟩ := dp_exists hc m (by omega)
    obtain ⟨v, j, hb⟩ := best_exists (n := n) hc (C := C) (Pn := Pn) (i := n - (m + 1)) (fun k h1 h2 => h.nn k (by omega) h2) (n + 1)
    generalize hi : n - (m + 1) = i at *
    have hb' : Bst (cnd n ok C i) (vl c C Pn i) v j := hb.congr (fun x => ⟨fun hx => hx.1, fun hx => ⟨hx, by have := hx.2.1; omega⟩⟩) (fun _ _ => rfl)
    have hne : ∀ k, i < k → k ≠ i := fun k h => by omega
    refine ⟨fun k => if k = i then v.1 else C k, fun k => if k = i then v.2 else Pn k, fun k => if k = i then j else nx k, ?_, ?_, fun k h1 h2 => ?_, fun k h1 h2 => ?_⟩
    · show (if n = i then v.1 else C n) = 0
      rw [if_neg (by omega)]; exact h.n0
    · show (if n = i then v.2 else Pn n) = 0
      rw [if_neg (by omega)]; exact h.p0
    · show -1 ≤ (if k = i then v.1 else C k)
      by_cases e : k = i
      · rw [if_pos e]
        rcases hb' with ⟨q1, _⟩ | ⟨q1, q2, _⟩
        · rw [q1]; decide
        · rw [q2]
          have := hc i j q1.2.2.1
          have := h.nn j (by have := q1.1; omega) q1.2.1
          show -1 ≤ c i j + C j
          omega
      · rw [if_neg e]; exact h.nn k (by omega) h2
    · have hcn : ∀ x, k < x → (cnd n ok (fun k => if k = i then v.1 else C k) k x ↔ cnd n ok C k x) := fun x hx => by
        unfold cnd
        dsimp only
        rw [if_neg (by omega)]
      have hvl : ∀ x, k < x → vl c (fun k => if k = i then v.1 else C k) (fun k => if k = i then v.2 else Pn k) k x = vl c C Pn k x := fun x hx => by
        unfold vl
        dsimp only
        rw [if_neg (by omega), if_neg (by omega)]
      have key : Bst (cnd n ok C k) (vl c C Pn k) (if k = i then v.1 else C k, if k = i then v.2 else Pn k) (if k = i then j else nx k) := by
        by_cases e : k = i
        · subst e
          rw [if_pos rfl, if_pos rfl, if_pos rfl]
          exact hb'
        · rw [if_neg e, if_neg e, if_neg e]
          exact h.bst k (by omega) h2
      refine key.congr (fun x => ⟨fun hx => (hcn x hx.1).2 hx, fun hx => (hcn x hx.1).1 hx⟩) (fun x hx => (hvl x hx.1).symm)
theorem dp_bound {K : Int} (hK : 0 ≤ K) (hc : ∀ i j, ok i j = true → 0 ≤ c i j ∧ c i j ≤ K) {C Pn : Nat → Int} {nx : Nat → Nat} (h : DPx n ok c 0 C Pn nx) : ∀ m k, k ≤ n → n - k ≤ m → -1 ≤ C k ∧ C k ≤ ((n - k : Nat) : Int) * K ∧ 0 ≤ Pn k ∧ Pn k ≤ ((n - k : Nat) : Int)
  | 0, k, hk, hm => by
    obtain rfl : k = n := by omega
    rw [h.n0, h.p0]; simp
  | m + 1, k, hk, hm => by
    by_cases e : k = n
    · subst e; rw [h.n0, h.p0]; simp
    · rcases h.bst k (by omega) (by omega) with ⟨q1, _⟩ | ⟨q1, q2, _⟩
      · injection q1 with q1 q2
        rw [q1, q2]
        have : 0 ≤ ((n - k : Nat) : Int) * K := Int.mul_nonneg (by omega) hK
        omega
      · injection q2 with q2 q3
        obtain ⟨a1, a2, a3, a4⟩ := q1
        have ih := dp_bound hK hc h m (nx k) a2 (by omega)
        have hcb := hc k (nx k) a3
        have hm2 : (((n - nx k : Nat) : Int) + 1) * K ≤ ((n - k : Nat) : Int) * K := Int.mul_le_mul_of_nonneg_right (by omega) hK
        rw [Int.add_mul, Int.one_mul] at hm2
        rw [q2, q3]
        omega
variable (n ok c) in
inductive Way (C : Nat → Int) (nx : Nat → Nat) : Nat → List (Nat × Nat) → Prop
  | nil : Way C nx n []
  | cons {i : Nat} {L : List (Nat × Nat)} : i < n → C i ≠ -1 → cnd n ok C i (nx i) → Way C nx (nx i) L → Way C nx i ((i, nx i) :: L)
theorem way_exists {C Pn : Nat → Int} {nx : Nat → Nat} (h : DPx n ok c 0 C Pn nx) : ∀ m i, i ≤ n → n - i ≤ m → C i ≠ -1 → ∃ L, Way n ok C nx i L
  | 0, i, hi, hm, hv => by
    obtain rfl : i = n := by omega
    exact ⟨[], .nil⟩
  | m + 1, i, hi, hm, hv => by
    by_cases e : i = n
    · subst e; exact ⟨[], .nil⟩
    · have hb := (h.bst i (by omega) (by omega)).some hv
      obtain ⟨L, hL⟩ := way_exists h m (nx i) hb.1.2.1 (by have := hb.1.1; omega) hb.1.2.2.2
      exact ⟨_, .cons (by omega) hv hb.1 hL⟩
theorem way_len {C : Nat → Int} {nx : Nat → Nat} {i : Nat} {L : List (Nat × Nat)} (h : Way n ok C nx i L) : L.length + i ≤ n := by
  induction h with
  | nil => simp
  | cons h1 h2 h3 h4 ih => have := h3.1; simp only [List.length_cons]; omega
end
end Go.Proofs.YtalfcmgcjdkolaaGreatDoor
namespace Go.Proofs.YtalfcmgcjdkolaaGreatDoor
set_option maxRecDepth 100000
set_option maxHeartbeats 10000000
def csq (s : A_Speech) (i j : Nat) : Int := (pq s i j).2.1
def okQ (s : A_Speech) (i j : Nat) : Bool := decide (i < j) && decide (j ≤ s.Words.length) && okE s i j
theorem okQ_t {s : A_Speech} {i j : Nat} : okQ s i j = true ↔ i < j ∧ j ≤ s.Words.length ∧ okE s i j = true := by
  unfold okQ; simp only [Bool.and_eq_true, decide_eq_true_eq, and_assoc]
theorem csq_b {s : A_Speech} (hs : Sv s) {i j : Nat} (h : okQ s i j = true) : 0 ≤ csq s i j ∧ csq s i j ≤ 30000000000000 := by
  obtain ⟨h1, h2, h3⟩ := okQ_t.1 h
  obtain ⟨_, _, _, q4⟩ := pq_eq hs h1 h2
  have := q4 (by simpa [okE] using h3)
  exact ⟨this.2.2.1, this.2.2.2.1⟩
abbrev Dp (s : A_Speech) (C Pn : Nat → Int) (nx : Nat → Nat) : Prop := DPx s.Words.length (okQ s) (csq s) 0 C Pn nx
abbrev Cn (s : A_Speech) := cnd s.Words.length (okQ s)
theorem dp_ex {s : A_Speech} (hs : Sv s) : ∃ C Pn nx, Dp s C Pn nx := by
  have := dp_exists (n := s.Words.length) (ok := okQ s) (c := csq s) (fun i j h => (csq_b hs h).1) s.Words.length (Nat.le_refl _)
  rw [Nat.sub_self] at this
  exact this
theorem dp_bd {s : A_Speech} (hs : Sv s) {C Pn : Nat → Int} {nx : Nat → Nat} (h : Dp s C Pn nx) {k : Nat} (hk : k ≤ s.Words.length) : -1 ≤ C k ∧ C k ≤ 240000000000000 ∧ 0 ≤ Pn k ∧ Pn k ≤ 8 := by
  have := dp_bound (K := 30000000000000) (by omega) (fun i j hq => csq_b hs hq) h s.Words.length k hk (by omega)
  have := hs.ok.words
  omega
theorem fl_at {s : A_Speech} {i k : Nat} (h : k < (fl s i).length) : okQ s i (fl s i)[k] = true := okQ_t.2 (fl_mem.1 (List.getElem_mem h))
theorem ed_at {s : A_Speech} {i k : Nat} (h : k < (fl s i).length) : atI (ed s i) (k : Int) = some (edge s i (fl s i)[k]) := by
  rw [atI_nat (by simp [ed]; exact h)]
  simp [ed]
theorem ed_len (s : A_Speech) (i : Nat) : (ed s i).length = (fl s i).length := by simp [ed]
theorem fl_lt {s : A_Speech} {i a b : Nat} (hab : a < b) (hb : b < (fl s i).length) : (fl s i)[a]'(by omega) < (fl s i)[b] := List.pairwise_iff_getElem.1 (fl_sorted s i) a b (by omega) hb hab
theorem mem_take {s : A_Speech} {i k x : Nat} : x ∈ (fl s i).take k ↔ ∃ a, ∃ h : a < (fl s i).length, a < k ∧ (fl s i)[a] = x := by
  rw [List.mem_take_iff_getElem]
  constructor
  · rintro ⟨a, h, rfl⟩
    exact ⟨a, by omega, by omega, rfl⟩
  · rintro ⟨a, h, h1, rfl⟩
    exact ⟨a, by omega, rfl⟩
structure BestTo (s : A_Speech) (C Pn : Nat → Int) (i : Nat) (m : List (Int × Int)) : Prop where
  len : m.length = s.Words.length + 1
  done : ∀ k, i ≤ k → k ≤ s.Words.length → m[k]? = some (C k, Pn k)
  todo : ∀ k, k < i → m[k]? = some (0, 0)
def rPr (x : T_segment_rest) : Int × Int := (x.cost_, x.parts_)
theorem rPr_at {m : List T_segment_rest} {k : Nat} {a b : Int} (h : (m.map rPr)[k]? = some (a, b)) : atI m (k : Int) = some ⟨a, b⟩ := by
  rw [List.getElem?_map] at h
  cases hk : m[k]? with
  | none => rw [hk] at h; cases h
  | some x =>
    rw [hk] at h
    obtain ⟨x1, x2⟩ := x
    simp [rPr] at h
    rw [getI hk, h.1, h.2]
theorem map_set' {m : List T_segment_rest} {k : Nat} {x : T_segment_rest} : (m.set k x).map rPr = (m.map rPr).set k (rPr x) := List.map_set
def TakeOK (s : A_Speech) (C : Nat → Int) (nx : Nat → Nat) (i : Nat) (tk : List Int) : Prop := tk.length = s.Words.length ∧ ∀ k, i ≤ k → k < s.Words.length → C k ≠ -1 → ∃ t : Nat, tk[k]? = some (t : Int) ∧ (fl s k)[t]? = some (nx k)
theorem seg_inner {s : A_Speech} (hs : Sv s) {C Pn : Nat → Int} {nx : Nat → Nat} (hd : Dp s C Pn nx) {i : Nat} (hi : i < s.Words.length) {m : List T_segment_rest} (hm : BestTo s C Pn (i + 1) (m.map rPr)) {tk : List Int} (ht : TakeOK s C nx (i + 1) tk) {z1 : List T_segment_rest} {z2 : List Int} :
    ∃ e, iter (g_segment_Segment_s2 ((i : Int), z1, z2) (ed s i)) (0, m.set i ⟨-1, 0⟩, tk) = some e ∧ BestTo s C Pn i (e.1.map rPr) ∧ TakeOK s C nx i e.2 := by
  have hn := hs.ok.words
  have hfl := fl_len s i
  have hml := hm.len
  rw [List.length_map] at hml
  refine iter_post (fun x => ∃ (k : Nat) (v : Int × Int) (j : Nat), x.1 = (k : Int) ∧ k ≤ (fl s i).length ∧ x.2.1 = m.set i ⟨v.1, v.2⟩ ∧ x.2.2.length = s.Words.length ∧ (∀ a, a ≠ i → x.2.2[a]? = tk[a]?) ∧ Bst (fun y => Cn s C i y ∧ y ∈ (fl s i).take k) (vl (csq s) C Pn i) v j ∧ (v.1 ≠ -1 → ∃ t : Nat, x.2.2[i]? = some (t : Int) ∧ (fl s i)[t]? = some j)) (fun x => (fl s i).length - x.1.toNat) (fun (e : List T_segment_rest × List Int) => BestTo s C Pn i (e.1.map rPr) ∧ TakeOK s C nx i e.2) (x := (0, m.set i ⟨-1, 0⟩, tk)) ⟨0, (-1, 0), 0, rfl, by omega, rfl, ht.1, fun _ _ => rfl, .none (by simp), fun h => absurd rfl h⟩ (by show (fl s i).length - 0 < _; omega) ?_
  rintro ⟨x, bm, tk'⟩ ⟨k, v, j, hx, hk, hbm, htl, hte, hb, htk⟩
  dsimp only at hx hbm htl hte htk ⊢
  subst hx hbm
  unfold g_segment_Segment_s2
  dsimp only
  rw [ed_len]
  have hvb : -1 ≤ v.1 ∧ v.1 ≤ 270000000000000 ∧ 0 ≤ v.2 ∧ v.2 ≤ 9 := by
    rcases hb with ⟨q1, _⟩ | ⟨⟨q1, _⟩, q2, _⟩
    · rw [q1]; decide
    · rw [q2]
      have a := csq_b hs q1.2.2.1
      have b := dp_bd hs hd q1.2.1
      have c := q1.2.2.2
      show -1 ≤ csq s i j + C j ∧ csq s i j + C j ≤ _ ∧ 0 ≤ Pn j + 1 ∧ Pn j + 1 ≤ 9
      omega
  by_cases hlt : k < (fl s i).length
  · left
    have hJ := fl_at hlt
    obtain ⟨J, hJe⟩ : ∃ J, (fl s i)[k] = J := ⟨_, rfl⟩
    rw [hJe] at hJ
    obtain ⟨j1, j2, j3⟩ := okQ_t.1 hJ
    obtain ⟨_, _, _, q4⟩ := pq_eq hs j1 j2
    have q5 := q4 (by simpa [okE] using j3)
    have hdb := dp_bd hs hd j2
    have hcb := csq_b hs hJ
    have htake : ∀ x, x ∈ (fl s i).take (k + 1) ↔ x ∈ (fl s i).take k ∨ x = J := fun x => by
      rw [List.take_add_one, List.getElem?_eq_getElem hlt, hJe]
      simp
    have hold : ∀ x, (Cn s C i x ∧ x ∈ (fl s i).take k) → x < J := fun x hx => by
      obtain ⟨a, h1, h2, rfl⟩ := mem_take.1 hx.2
      rw [← hJe]; exact fl_lt h2 hlt
    have hval0 : ∀ x, (Cn s C i x ∧ x ∈ (fl s i).take k) → 0 ≤ (vl (csq s) C Pn i x).1 := fun x hx => by
      have a := csq_b hs hx.1.2.2.1
      have b := dp_bd hs hd hx.1.2.1
      have c := hx.1.2.2.2
      show 0 ≤ csq s i x + C x
      omega
    rw [if_pos (by simpa using hlt), ed_at hlt, hJe, wr64 (x := (k : Int) + 1) (by omega)]
    simp only [Option.bind_some]
    have hTo : (edge s i J).part_.To = (J : Int) := q5.2.1
    have hco : (edge s i J).cost_ = csq s i J := rfl
    have hmJ : atI (m.set i ⟨v.1, v.2⟩) (J : Int) = some ⟨C J, Pn J⟩ := rPr_at (by
      rw [map_set', List.getElem?_set, if_neg (by omega)]
      exact hm.done J (by omega) j2)
    have hmi : atI (m.set i ⟨v.1, v.2⟩) (i : Int) = some ⟨v.1, v.2⟩ := getI (by
      rw [List.getElem?_set, if_pos rfl, if_pos (by omega)])
    rw [hTo, hco, hmJ]
    simp only [Option.bind_some]
    by_cases hC : C J = -1
    · rw [if_pos (by simpa using hC)]
      refine ⟨_, rfl, ⟨k + 1, v, j, rfl, by omega, rfl, htl, hte, hb.congr (fun x => ⟨fun hx => ⟨hx.1, (htake x).2 (.inl hx.2)⟩, fun hx => ⟨hx.1, ?_⟩⟩) (fun _ _ => rfl), htk⟩, by dsimp only; omega⟩
      rcases (htake x).1 hx.2 with h | rfl
      · exact h
      · exact absurd hC hx.1.2.2.2
    · rw [if_neg (by simpa using hC), hmi]
      simp only [Option.bind_some]
      rw [wr64 (x := C J + csq s i J) (by omega), wr64 (x := Pn J + 1) (by omega)]
      have hcand : Cn s C i J := ⟨j1, j2, hJ, hC⟩
      have hstep := hb.step (J := J) hold hval0
      have e1 : vl (csq s) C Pn i J = (C J + csq s i J, Pn J + 1) := by unfold vl; rw [Int.add_comm]
      have hset' : ∀ x, ((Cn s C i x ∧ x ∈ (fl s i).take k) ∨ x = J) ↔ (Cn s C i x ∧ x ∈ (fl s i).take (k + 1)) := fun x => by
        rw [htake]
        constructor
        · rintro (h | rfl)
          · exact ⟨h.1, .inl h.2⟩
          · exact ⟨hcand, .inr rfl⟩
        · rintro ⟨h1, h2 | h2⟩
          · exact .inl ⟨h1, h2⟩
          · exact .inr h2
      have hstep := hstep.congr hset' (fun _ _ => rfl)
      have hbet : g_segment_rest_better ⟨C J + csq s i J, Pn J + 1⟩ ⟨v.1, v.2⟩ = some (decide (v.1 = -1 ∨ lexlt (vl (csq s) C Pn i J) v)) := by
        rw [e1]
        unfold g_segment_rest_better lexlt
        dsimp only
        by_cases a1 : v.1 = -1
        · simp [a1]
        · by_cases a2 : C J + csq s i J < v.1
          · simp [a1, a2]
          · by_cases a3 : C J + csq s i J = v.1
            · simp [a1, a2, a3]
            · simp [a1, a2, a3]
      rw [hbet]
      simp only [Option.bind_some]
      by_cases hb2 : v.1 = -1 ∨ lexlt (vl (csq s) C Pn i J) v
      · rw [if_pos hb2, if_pos hb2] at hstep
        rw [if_pos (by simpa using hb2)]
        rw [setI_nat _ (by rw [List.length_set]; omega), List.set_set]
        simp only [Option.bind_some]
        rw [atI_nat (by omega), setI_nat _ (by omega)]
        simp only [Option.bind_some]
        refine ⟨_, rfl, ⟨k + 1, vl (csq s) C Pn i J, J, rfl, by omega, by dsimp only; rw [e1], by dsimp only; rw [List.length_set]; exact htl, fun a ha => ?_, hstep, fun _ => ⟨k, ?_, ?_⟩⟩, by dsimp only; omega⟩
        · dsimp only
          rw [List.getElem?_set, if_neg (fun e => ha e.symm)]
          exact hte a ha
        · dsimp only
          rw [List.getElem?_set, if_pos rfl, if_pos (by omega)]
        · rw [List.getElem?_eq_getElem hlt, hJe]
      · rw [if_neg hb2, if_neg hb2] at hstep
        rw [if_neg (by simpa using hb2)]
        exact ⟨_, rfl, ⟨k + 1, v, j, rfl, by omega, rfl, htl, hte, hstep, htk⟩, by dsimp only; omega⟩
  · right
    rw [if_neg (by simpa using hlt)]
    have hfull : Bst (Cn s C i) (vl (csq s) C Pn i) v j := hb.congr (fun x => ⟨fun hx => hx.1, fun hx => ⟨hx, by
      rw [List.take_of_length_le (by omega)]
      exact fl_mem.2 (okQ_t.1 hx.2.2.1)⟩⟩) (fun _ _ => rfl)
    have hval0 : ∀ x, Cn s C i x → 0 ≤ (vl (csq s) C Pn i x).1 := fun x hx => by
      have a := csq_b hs hx.2.2.1
      have b := dp_bd hs hd hx.2.1
      have c := hx.2.2.2
      show 0 ≤ csq s i x + C x
      omega
    obtain ⟨u1, u2⟩ := hfull.uniq hval0 (hd.bst i (by omega) hi)
    have v1 : v.1 = C i := by rw [u1]
    have v2 : v.2 = Pn i := by rw [u1]
    refine ⟨_, rfl, ⟨?_, fun a h1 h2 => ?_, fun a h1 => ?_⟩, htl, fun a h1 h2 h3 => ?_⟩
    · dsimp only
      rw [List.length_map, List.length_set]; exact hml
    · dsimp only
      rw [map_set', List.getElem?_set]
      by_cases e : i = a
      · subst e
        rw [if_pos rfl, if_pos (by rw [List.length_map]; omega)]
        show some (v.1, v.2) = _
        rw [v1, v2]
      · rw [if_neg e]; exact hm.done a (by omega) h2
    · dsimp only
      rw [map_set', List.getElem?_set, if_neg (by omega)]
      exact hm.todo a (by omega)
    · dsimp only
      by_cases e : a = i
      · subst e
        have hv : v.1 ≠ -1 := by rw [v1]; exact h3
        rw [← u2 hv]
        exact htk hv
      · rw [hte a e]
        exact ht.2 a (by omega) h2 h3
end Go.Proofs.YtalfcmgcjdkolaaGreatDoor
namespace Go.Proofs.YtalfcmgcjdkolaaGreatDoor
set_option maxRecDepth 100000
set_option maxHeartbeats 10000000
instance (s : A_Speech) (C : Nat → Int) (i j : Nat) : Decidable (Cn s C i j) := by unfold Cn cnd; infer_instance
theorem val0 {s : A_Speech} (hs : Sv s) {C Pn : Nat → Int} {nx : Nat → Nat} (hd : Dp s C Pn nx) {i : Nat} : ∀ x, Cn s C i x → 0 ≤ (vl (csq s) C Pn i x).1 := fun x hx => by
  have a := csq_b hs hx.2.2.1
  have b := dp_bd hs hd hx.2.1
  have c := hx.2.2.2
  show 0 ≤ csq s i x + C x
  omega
theorem seg_outer {s : A_Speech} (hs : Sv s) {C Pn : Nat → Int} {nx : Nat → Nat} (hd : Dp s C Pn nx) :
    ∃ e, iter (g_segment_Segment_s1 ((List.range s.Words.length).map (ed s))) ((s.Words.length : Int) - 1, List.replicate (s.Words.length + 1) ⟨0, 0⟩, List.replicate s.Words.length 0) = some e ∧ BestTo s C Pn 0 (e.1.map rPr) ∧ TakeOK s C nx 0 e.2 := by
  have hn := hs.ok.words
  refine iter_post (fun x => ∃ m : Nat, x.1 = (m : Int) - 1 ∧ m ≤ s.Words.length ∧ BestTo s C Pn m (x.2.1.map rPr) ∧ TakeOK s C nx m x.2.2) (fun x => (x.1 + 1).toNat) (fun (e : List T_segment_rest × List Int) => BestTo s C Pn 0 (e.1.map rPr) ∧ TakeOK s C nx 0 e.2) (x := ((s.Words.length : Int) - 1, _, _)) ⟨s.Words.length, rfl, Nat.le_refl _, ⟨by simp, fun k h1 h2 => ?_, fun k h1 => ?_⟩, by simp, fun k h1 h2 => by omega⟩ (by show ((s.Words.length : Int) - 1 + 1).toNat < _; omega) ?_
  · obtain rfl : k = s.Words.length := by omega
    rw [hd.n0, hd.p0, List.map_replicate, List.getElem?_replicate, if_pos (by omega)]; rfl
  · rw [List.map_replicate, List.getElem?_replicate, if_pos (by omega)]; rfl
  rintro ⟨x, bm, tk⟩ ⟨m, hx, hm, hb, ht⟩
  dsimp only at hx hb ht ⊢
  subst hx
  unfold g_segment_Segment_s1
  dsimp only
  cases m with
  | zero =>
    right
    rw [if_neg (by simp)]
    exact ⟨_, rfl, hb, ht⟩
  | succ i =>
    left
    have hbl := hb.len
    rw [List.length_map] at hbl
    rw [show ((i + 1 : Nat) : Int) - 1 = (i : Int) by omega, if_pos (by simp), rPr_at (hb.todo i (by omega))]
    simp only [Option.bind_some]
    rw [setI_nat _ (by omega), atI_nat (show i < ((List.range s.Words.length).map (ed s)).length by simp; omega), wr64 (x := (i : Int) - 1) (by omega)]
    simp only [Option.bind_some, List.getElem_map, List.getElem_range]
    obtain ⟨e, he, h1, h2⟩ := seg_inner hs hd (i := i) (by omega) hb ht (z1 := bm) (z2 := tk)
    rw [he]
    exact ⟨_, rfl, ⟨i, rfl, by omega, h1, h2⟩, by dsimp only; omega⟩
theorem pots_prog {e : List T_segment_rest × List Int} (hl : e.1.length ≤ 1000) : iter (g_segment_Segment_s3 e) (0, []) = some (e.1.map (·.cost_)) := by
  refine iter_of (fun x r => r = e.1.map (·.cost_) ∧ ∃ i : Nat, x.1 = (i : Int) ∧ i ≤ e.1.length ∧ x.2 = (e.1.take i).map (·.cost_)) (fun x => e.1.length - x.1.toNat) ?_ (x := (0, [])) ⟨rfl, 0, rfl, by omega, by simp⟩ (by show e.1.length - 0 < _; omega)
  rintro ⟨x, acc⟩ r ⟨rfl, i, hx, hi, ha⟩
  dsimp only at hx ha ⊢
  subst hx ha
  unfold g_segment_Segment_s3
  dsimp only
  by_cases h : i < e.1.length
  · left
    rw [if_pos (by simpa using h), atI_nat h, wr64 (x := (i : Int) + 1) (by omega)]
    simp only [Option.bind_some]
    rw [if_pos (by simp; omega)]
    refine ⟨_, rfl, ⟨by first | rfl | trivial, i + 1, rfl, h, ?_⟩, by dsimp only; omega⟩
    dsimp only
    rw [List.take_add_one, List.getElem?_eq_getElem h, List.map_append]
    rfl
  · right
    rw [if_neg (by simpa using h), List.take_of_length_le (by omega)]
theorem parts_prog {s : A_Speech} (hs : Sv s) {C Pn : Nat → Int} {nx : Nat → Nat} (hd : Dp s C Pn nx) {e : List T_segment_rest × List Int} (ht : TakeOK s C nx 0 e.2) {W : List (Nat × Nat)} (hW : Way s.Words.length (okQ s) C nx 0 W) :
    iter (g_segment_Segment_s4 ((List.range s.Words.length).map (ed s)) e) (0, []) = some (W.map fun q => (pq s q.1 q.2).1) := by
  have hn := hs.ok.words
  refine iter_of (fun x r => r = W.map (fun q => (pq s q.1 q.2).1) ∧ ∃ (i : Nat) (L : List (Nat × Nat)), x.1 = (i : Int) ∧ i ≤ s.Words.length ∧ Way s.Words.length (okQ s) C nx i L ∧ x.2 ++ L.map (fun q => (pq s q.1 q.2).1) = W.map (fun q => (pq s q.1 q.2).1) ∧ x.2.length ≤ i) (fun x => s.Words.length - x.1.toNat) ?_ (x := (0, [])) ⟨rfl, 0, W, rfl, by omega, hW, rfl, by simp⟩ (by show s.Words.length - 0 < _; omega)
  rintro ⟨x, acc⟩ r ⟨rfl, i, L, hx, hi, hL, ha, hal⟩
  dsimp only at hx ha hal ⊢
  subst hx
  unfold g_segment_Segment_s4
  dsimp only
  rw [List.length_map, List.length_range]
  cases hL with
  | nil =>
    right
    rw [if_neg (by simp), ← ha]
    simp
  | @cons i L h1 h2 h3 h4 =>
    left
    obtain ⟨t, t1, t2⟩ := ht.2 i (by omega) h1 h2
    obtain ⟨t3, t4⟩ := List.getElem?_eq_some_iff.1 t2
    have hq := okQ_t.1 h3.2.2.1
    obtain ⟨_, _, _, q4⟩ := pq_eq hs hq.1 hq.2.1
    have q5 := q4 (by simpa [okE] using hq.2.2)
    rw [if_pos (by simpa using h1), atI_nat (show i < ((List.range s.Words.length).map (ed s)).length by simp; omega), getI t1]
    simp only [Option.bind_some, List.getElem_map, List.getElem_range]
    rw [ed_at t3, t4]
    simp only [Option.bind_some]
    rw [if_pos (by omega)]
    refine ⟨_, rfl, ⟨by first | rfl | trivial, nx i, L, q5.2.1, hq.2.1, h4, ?_, by simp; omega⟩, ?_⟩
    · dsimp only
      rw [← ha]
      simp [edge]
    · dsimp only
      have : (edge s i (nx i)).part_.To = (nx i : Int) := q5.2.1
      rw [this]
      have := hq.1
      omega
theorem Segment_prog {s : A_Speech} (hs : Sv s) (hc : ckSp s = 0) {C Pn : Nat → Int} {nx : Nat → Nat} (hd : Dp s C Pn nx) {W : List (Nat × Nat)} (hW : C 0 ≠ -1 → Way s.Words.length (okQ s) C nx 0 W) :
    g_segment_Segment s = some (if C 0 = -1 then (⟨[], 0, []⟩, 11) else (⟨W.map (fun q => (pq s q.1 q.2).1), C 0, (List.range (s.Words.length + 1)).map C⟩, 0)) := by
  have hn := hs.ok.words
  obtain ⟨e, he, h1, h2⟩ := seg_outer hs hd
  have hel := h1.len
  rw [List.length_map] at hel
  have hpots : e.1.map (·.cost_) = (List.range (s.Words.length + 1)).map C := by
    refine List.ext_getElem? fun k => ?_
    by_cases hk : k < s.Words.length + 1
    · have := h1.done k (by omega) (by omega)
      rw [List.getElem?_map] at this ⊢
      rw [List.getElem?_map, List.getElem?_range hk]
      cases hx : e.1[k]? with
      | none => rw [hx] at this; cases this
      | some x =>
        rw [hx] at this
        simp [rPr] at this
        simp [this.1]
    · rw [List.getElem?_eq_none (by simp; omega), List.getElem?_eq_none (by simp; omega)]
  have ha := rPr_at (h1.done 0 (by omega) (by omega))
  simp only [Int.natCast_zero] at ha
  unfold g_segment_Segment
  rw [seg_Check hs.ok, hc, edges_eq hs]
  simp only [Option.bind_some, bne_self_eq_false, Bool.false_eq_true, if_false, List.length_map, List.length_range]
  rw [wr64 (x := (s.Words.length : Int) + 1) (by omega), wr64 (x := (s.Words.length : Int) - 1) (by omega), show ((s.Words.length : Int) + 1) = ((s.Words.length + 1 : Nat) : Int) by omega, mkI_nat 16 (s.Words.length + 1) _ (by omega) (by omega), mkI_nat 8 s.Words.length _ (by omega) (by omega)]
  simp only [Option.bind_some]
  rw [he]
  simp only [Option.bind_some]
  rw [ha]
  simp only [Option.bind_some]
  by_cases h0 : C 0 = -1
  · rw [if_pos (by simpa using h0), if_pos h0]
  · rw [if_neg (by simpa using h0), if_neg h0, pots_prog (by omega), parts_prog hs hd h2 (hW h0), hpots]
    rfl
def rR (x : T_R38_rest) : Int × Int := (x.cost_, x.parts_)
theorem rR_at {m : List T_R38_rest} {k : Nat} {a b : Int} (h : (m.map rR)[k]? = some (a, b)) : atI m (k : Int) = some ⟨a, b⟩ := by
  rw [List.getElem?_map] at h
  cases hk : m[k]? with
  | none => rw [hk] at h; cases h
  | some x =>
    rw [hk] at h
    obtain ⟨x1, x2⟩ := x
    simp [rR] at h
    rw [getI hk, h.1, h.2]
theorem map_setR {m : List T_R38_rest} {k : Nat} {x : T_R38_rest} : (m.set k x).map rR = (m.map rR).set k (rR x) := List.map_set
def NextOK (s : A_Speech) (C : Nat → Int) (nx : Nat → Nat) (i : Nat) (tk : List Int) : Prop := tk.length = s.Words.length + 1 ∧ ∀ k, i ≤ k → k < s.Words.length → C k ≠ -1 → tk[k]? = some (nx k : Int)
theorem ref_inner {s : A_Speech} (hs : Sv s) (hc : g_ref38_Check s = some 0) {C Pn : Nat → Int} {nx : Nat → Nat} (hd : Dp s C Pn nx) {i : Nat} (hi : i < s.Words.length) {m : List T_R38_rest} (hm : BestTo s C Pn (i + 1) (m.map rR)) {tk : List Int} (ht : NextOK s C nx (i + 1) tk) {z1 : List T_R38_rest} {z2 : List Int} :
    ∃ e, iter (g_ref38_Segment_s2 s ((i : Int), z1, z2)) ((i : Int) + 1, m.set i ⟨-1, 0⟩, tk) = some e ∧ BestTo s C Pn i (e.1.map rR) ∧ NextOK s C nx i e.2 := by
  have hn := hs.ok.words
  have hml := hm.len
  rw [List.length_map] at hml
  refine iter_post (fun x => ∃ (J : Nat) (v : Int × Int) (j : Nat), x.1 = (J : Int) ∧ i < J ∧ J ≤ s.Words.length + 1 ∧ x.2.1 = m.set i ⟨v.1, v.2⟩ ∧ x.2.2.length = s.Words.length + 1 ∧ (∀ a, a ≠ i → x.2.2[a]? = tk[a]?) ∧ Bst (fun y => Cn s C i y ∧ y < J) (vl (csq s) C Pn i) v j ∧ (v.1 ≠ -1 → x.2.2[i]? = some (j : Int))) (fun x => s.Words.length + 1 - x.1.toNat) (fun (e : List T_R38_rest × List Int) => BestTo s C Pn i (e.1.map rR) ∧ NextOK s C nx i e.2) (x := ((i : Int) + 1, m.set i ⟨-1, 0⟩, tk)) ⟨i + 1, (-1, 0), 0, rfl, by omega, by omega, rfl, ht.1, fun _ _ => rfl, .none (fun x hx => by have := hx.1.1; have := hx.2; omega), fun h => absurd rfl h⟩ (by show s.Words.length + 1 - _ < _; omega) ?_
  rintro ⟨x, bm, tk'⟩ ⟨J, v, j, hx, hiJ, hJ, hbm, htl, hte, hb, htk⟩
  dsimp only at hx hbm htl hte htk ⊢
  subst hx hbm
  unfold g_ref38_Segment_s2
  dsimp only
  have hvb : -1 ≤ v.1 ∧ v.1 ≤ 270000000000000 ∧ 0 ≤ v.2 ∧ v.2 ≤ 9 := by
    rcases hb with ⟨q1, _⟩ | ⟨⟨q1, _⟩, q2, _⟩
    · rw [q1]; decide
    · rw [q2]
      have a := csq_b hs q1.2.2.1
      have b := dp_bd hs hd q1.2.1
      have c := q1.2.2.2
      show -1 ≤ csq s i j + C j ∧ csq s i j + C j ≤ _ ∧ 0 ≤ Pn j + 1 ∧ Pn j + 1 ≤ 9
      omega
  by_cases hlt : J ≤ s.Words.length
  · left
    obtain ⟨_, q2, _, q4⟩ := pq_eq hs hiJ hlt
    have hdb := dp_bd hs hd hlt
    rw [if_pos (by simp; omega), q2 hc, wr64 (x := (J : Int) + 1) (by omega)]
    simp only [Option.bind_some]
    have hmJ : atI (m.set i ⟨v.1, v.2⟩) (J : Int) = some ⟨C J, Pn J⟩ := rR_at (by
      rw [map_setR, List.getElem?_set, if_neg (by omega)]
      exact hm.done J (by omega) hlt)
    have hmi : atI (m.set i ⟨v.1, v.2⟩) (i : Int) = some ⟨v.1, v.2⟩ := getI (by
      rw [List.getElem?_set, if_pos rfl, if_pos (by omega)])
    have hcond : ((if ((pq s i J).2.2 != 0) = true then some true else (atI (m.set i ⟨v.1, v.2⟩) (J : Int)).bind fun y => some (decide (y.cost_ < 0))) : Option Bool) = some (decide (¬ Cn s C i J)) := by
      by_cases e : (pq s i J).2.2 = 0
      · have hok : okQ s i J = true := okQ_t.2 ⟨hiJ, hlt, by simp [okE, e]⟩
        rw [if_neg (by simpa using e), hmJ]
        simp only [Option.bind_some, Option.some.injEq, decide_eq_decide]
        unfold Cn cnd
        constructor
        · intro h hh; have := hh.2.2.2; omega
        · intro h
          by_cases e2 : C J = -1
          · omega
          · exact absurd ⟨hiJ, hlt, hok, e2⟩ h
      · rw [if_pos (by simpa using e)]
        have : ¬ Cn s C i J := fun hh => e (by simpa [okE] using (okQ_t.1 hh.2.2.1).2.2)
        simp [this]
    rw [hcond]
    simp only [Option.bind_some]
    have hold : ∀ x, (Cn s C i x ∧ x < J) → x < J := fun x hx => hx.2
    by_cases hcand : Cn s C i J
    rotate_left
    · rw [if_pos (by simpa using hcand)]
      refine ⟨_, rfl, ⟨J + 1, v, j, rfl, by omega, by omega, rfl, htl, hte, hb.congr (fun x => ⟨fun hx => ⟨hx.1, by omega⟩, fun hx => ⟨hx.1, ?_⟩⟩) (fun _ _ => rfl), htk⟩, by dsimp only; omega⟩
      have : x ≠ J := fun e => hcand (e ▸ hx.1)
      have := hx.2; omega
    · have hcb := csq_b hs hcand.2.2.1
      have hcs : (pq s i J).2.1 = csq s i J := rfl
      rw [if_neg (by simpa using hcand), hmJ]
      simp only [Option.bind_some]
      rw [hmi]
      simp only [Option.bind_some]
      rw [hcs, wr64 (x := csq s i J + C J) (by omega), wr64 (x := 1 + Pn J) (by omega)]
      have hstep := hb.step (J := J) hold (fun x hx => val0 hs hd x hx.1)
      have e1 : vl (csq s) C Pn i J = (csq s i J + C J, 1 + Pn J) := by unfold vl; rw [Int.add_comm 1]
      have hset' : ∀ x, ((Cn s C i x ∧ x < J) ∨ x = J) ↔ (Cn s C i x ∧ x < J + 1) := fun x => by
        constructor
        · rintro (h | rfl)
          · exact ⟨h.1, by omega⟩
          · exact ⟨hcand, by omega⟩
        · rintro ⟨h1, h2⟩
          by_cases e : x = J
          · exact .inr e
          · exact .inl ⟨h1, by omega⟩
      have hstep := hstep.congr hset' (fun _ _ => rfl)
      have hbet : (if decide (v.1 < 0) = true then some true else if decide (csq s i J + C J < v.1) = true then some true else if (csq s i J + C J == v.1) = true then some (decide (1 + Pn J < v.2)) else some false : Option Bool) = some (decide (v.1 = -1 ∨ lexlt (vl (csq s) C Pn i J) v)) := by
        rw [e1]
        unfold lexlt
        dsimp only
        by_cases a1 : v.1 = -1
        · simp [a1]
        · have a0 : ¬ v.1 < 0 := by omega
          by_cases a2 : csq s i J + C J < v.1
          · simp [a0, a1, a2]
          · by_cases a3 : csq s i J + C J = v.1
            · simp [a0, a1, a2, a3]
            · simp [a0, a1, a2, a3]
      rw [hbet]
      simp only [Option.bind_some]
      by_cases hb2 : v.1 = -1 ∨ lexlt (vl (csq s) C Pn i J) v
      · rw [if_pos hb2, if_pos hb2] at hstep
        rw [if_pos (by simpa using hb2)]
        rw [setI_nat _ (by rw [List.length_set]; omega), List.set_set]
        simp only [Option.bind_some]
        rw [atI_nat (by omega), setI_nat _ (by omega)]
        simp only [Option.bind_some]
        refine ⟨_, rfl, ⟨J + 1, vl (csq s) C Pn i J, J, rfl, by omega, by omega, by dsimp only; rw [e1], by dsimp only; rw [List.length_set]; exact htl, fun a ha => ?_, hstep, fun _ => ?_⟩, by dsimp only; omega⟩
        · dsimp only
          rw [List.getElem?_set, if_neg (fun e => ha e.symm)]
          exact hte a ha
        · dsimp only
          rw [List.getElem?_set, if_pos rfl, if_pos (by omega)]
      · rw [if_neg hb2, if_neg hb2] at hstep
        rw [if_neg (by simpa using hb2)]
        exact ⟨_, rfl, ⟨J + 1, v, j, rfl, by omega, by omega, rfl, htl, hte, hstep, htk⟩, by dsimp only; omega⟩
  · right
    rw [if_neg (by simp; omega)]
    have hfull : Bst (Cn s C i) (vl (csq s) C Pn i) v j := hb.congr (fun x => ⟨fun hx => hx.1, fun hx => ⟨hx, by have := hx.2.1; omega⟩⟩) (fun _ _ => rfl)
    obtain ⟨u1, u2⟩ := hfull.uniq (val0 hs hd) (hd.bst i (by omega) hi)
    have v1 : v.1 = C i := by rw [u1]
    have v2 : v.2 = Pn i := by rw [u1]
    refine ⟨_, rfl, ⟨?_, fun a h1 h2 => ?_, fun a h1 => ?_⟩, htl, fun a h1 h2 h3 => ?_⟩
    · dsimp only
      rw [List.length_map, List.length_set]; exact hml
    · dsimp only
      rw [map_setR, List.getElem?_set]
      by_cases e : i = a
      · subst e
        rw [if_pos rfl, if_pos (by rw [List.length_map]; omega)]
        show some (v.1, v.2) = _
        rw [v1, v2]
      · rw [if_neg e]; exact hm.done a (by omega) h2
    · dsimp only
      rw [map_setR, List.getElem?_set, if_neg (by omega)]
      exact hm.todo a (by omega)
    · dsimp only
      by_cases e : a = i
      · subst e
        have hv : v.1 ≠ -1 := by rw [v1]; exact h3
        rw [← u2 hv]
        exact htk hv
      · rw [hte a e]
        exact ht.2 a (by omega) h2 h3
theorem ref_outer {s : A_Speech} (hs : Sv s) (hc : g_ref38_Check s = some 0) {C Pn : Nat → Int} {nx : Nat → Nat} (hd : Dp s C Pn nx) :
    ∃ e, iter (g_ref38_Segment_s1 s) ((s.Words.length : Int) - 1, List.replicate (s.Words.length + 1) ⟨0, 0⟩, List.replicate (s.Words.length + 1) 0) = some e ∧ BestTo s C Pn 0 (e.1.map rR) ∧ NextOK s C nx 0 e.2 := by
  have hn := hs.ok.words
  refine iter_post (fun x => ∃ m : Nat, x.1 = (m : Int) - 1 ∧ m ≤ s.Words.length ∧ BestTo s C Pn m (x.2.1.map rR) ∧ NextOK s C nx m x.2.2) (fun x => (x.1 + 1).toNat) (fun (e : List T_R38_rest × List Int) => BestTo s C Pn 0 (e.1.map rR) ∧ NextOK s C nx 0 e.2) (x := ((s.Words.length : Int) - 1, _, _)) ⟨s.Words.length, rfl, Nat.le_refl _, ⟨by simp, fun k h1 h2 => ?_, fun k h1 => ?_⟩, by simp, fun k h1 h2 => by omega⟩ (by show ((s.Words.length : Int) - 1 + 1).toNat < _; omega) ?_
  · obtain rfl : k = s.Words.length := by omega
    rw [hd.n0, hd.p0, List.map_replicate, List.getElem?_replicate, if_pos (by omega)]; rfl
  · rw [List.map_replicate, List.getElem?_replicate, if_pos (by omega)]; rfl
  rintro ⟨x, bm, tk⟩ ⟨m, hx, hm, hb, ht⟩
  dsimp only at hx hb ht ⊢
  subst hx
  unfold g_ref38_Segment_s1
  dsimp only
  cases m with
  | zero =>
    right
    rw [if_neg (by simp)]
    exact ⟨_, rfl, hb, ht⟩
  | succ i =>
    left
    have hbl := hb.len
    rw [List.length_map] at hbl
    rw [show ((i + 1 : Nat) : Int) - 1 = (i : Int) by omega, if_pos (by simp), rR_at (hb.todo i (by omega))]
    simp only [Option.bind_some]
    rw [setI_nat _ (by omega), wr64 (x := (i : Int) - 1) (by omega), wr64 (x := (i : Int) + 1) (by omega)]
    simp only [Option.bind_some]
    obtain ⟨e, he, h1, h2⟩ := ref_inner hs hc hd (i := i) (by omega) hb ht (z1 := bm) (z2 := tk)
    rw [he]
    exact ⟨_, rfl, ⟨i, rfl, by omega, h1, h2⟩, by dsimp only; omega⟩
theorem pots_ref {e : List T_R38_rest × List Int} (hl : e.1.length ≤ 1000) : iter (g_ref38_Segment_s4 e) (0, []) = some (e.1.map (·.cost_)) := by
  refine iter_of (fun x r => r = e.1.map (·.cost_) ∧ ∃ i : Nat, x.1 = (i : Int) ∧ i ≤ e.1.length ∧ x.2 = (e.1.take i).map (·.cost_)) (fun x => e.1.length - x.1.toNat) ?_ (x := (0, [])) ⟨rfl, 0, rfl, by omega, by simp⟩ (by show e.1.length - 0 < _; omega)
  rintro ⟨x, acc⟩ r ⟨rfl, i, hx, hi, ha⟩
  dsimp only at hx ha ⊢
  subst hx ha
  unfold g_ref38_Segment_s4
  dsimp only
  by_cases h : i < e.1.length
  · left
    rw [if_pos (by simpa using h), atI_nat h, wr64 (x := (i : Int) + 1) (by omega)]
    simp only [Option.bind_some]
    rw [if_pos (by simp; omega)]
    refine ⟨_, rfl, ⟨by first | rfl | trivial, i + 1, rfl, h, ?_⟩, by dsimp only; omega⟩
    dsimp only
    rw [List.take_add_one, List.getElem?_eq_getElem h, List.map_append]
    rfl
  · right
    rw [if_neg (by simpa using h), List.take_of_length_le (by omega)]
theorem parts_ref {s : A_Speech} (hs : Sv s) (hc : g_ref38_Check s = some 0) {C Pn : Nat → Int} {nx : Nat → Nat} (hd : Dp s C Pn nx) {e : List T_R38_rest × List Int} (ht : NextOK s C nx 0 e.2) {W : List (Nat × Nat)} (hW : Way s.Words.length (okQ s) C nx 0 W) :
    iter (g_ref38_Segment_s3 s e) (0, []) = some (W.map fun q => (pq s q.1 q.2).1) := by
  have hn := hs.ok.words
  refine iter_of (fun x r => r = W.map (fun q => (pq s q.1 q.2).1) ∧ ∃ (i : Nat) (L : List (Nat × Nat)), x.1 = (i : Int) ∧ i ≤ s.Words.length ∧ Way s.Words.length (okQ s) C nx i L ∧ x.2 ++ L.map (fun q => (pq s q.1 q.2).1) = W.map (fun q => (pq s q.1 q.2).1) ∧ x.2.length ≤ i) (fun x => s.Words.length - x.1.toNat) ?_ (x := (0, [])) ⟨rfl, 0, W, rfl, by omega, hW, rfl, by simp⟩ (by show s.Words.length - 0 < _; omega)
  rintro ⟨x, acc⟩ r ⟨rfl, i, L, hx, hi, hL, ha, hal⟩
  dsimp only at hx ha hal ⊢
  subst hx
  unfold g_ref38_Segment_s3
  dsimp only
  cases hL with
  | nil =>
    right
    rw [if_neg (by simp), ← ha]
    simp
  | @cons i L h1 h2 h3 h4 =>
    left
    have t1 := ht.2 i (by omega) h1 h2
    have hq := okQ_t.1 h3.2.2.1
    obtain ⟨_, q2, _, _⟩ := pq_eq hs hq.1 hq.2.1
    rw [if_pos (by simpa using h1), getI t1]
    simp only [Option.bind_some]
    rw [q2 hc]
    simp only [Option.bind_some]
    rw [if_pos (by omega)]
    refine ⟨_, rfl, ⟨by first | rfl | trivial, nx i, L, rfl, hq.2.1, h4, ?_, by have := hq.1; simp; omega⟩, ?_⟩
    · dsimp only
      rw [← ha]
      simp
    · dsimp only
      have := hq.1
      omega
theorem Segment_ref {s : A_Speech} (hs : Sv s) (hck : ckSp s = 0) {C Pn : Nat → Int} {nx : Nat → Nat} (hd : Dp s C Pn nx) {W : List (Nat × Nat)} (hW : C 0 ≠ -1 → Way s.Words.length (okQ s) C nx 0 W) :
    g_ref38_Segment s = some (if C 0 = -1 then (⟨[], 0, []⟩, 11) else (⟨W.map (fun q => (pq s q.1 q.2).1), C 0, (List.range (s.Words.length + 1)).map C⟩, 0)) := by
  have hn := hs.ok.words
  have hc : g_ref38_Check s = some 0 := by rw [ref_segCheck hs.ok, hck]
  obtain ⟨e, he, h1, h2⟩ := ref_outer hs hc hd
  have hel := h1.len
  rw [List.length_map] at hel
  have hpots : e.1.map (·.cost_) = (List.range (s.Words.length + 1)).map C := by
    refine List.ext_getElem? fun k => ?_
    by_cases hk : k < s.Words.length + 1
    · have := h1.done k (by omega) (by omega)
      rw [List.getElem?_map] at this ⊢
      rw [List.getElem?_map, List.getElem?_range hk]
      cases hx : e.1[k]? with
      | none => rw [hx] at this; cases this
      | some x =>
        rw [hx] at this
        simp [rR] at this
        simp [this.1]
    · rw [List.getElem?_eq_none (by simp; omega), List.getElem?_eq_none (by simp; omega)]
  have ha := rR_at (h1.done 0 (by omega) (by omega))
  simp only [Int.natCast_zero] at ha
  have hdb := dp_bd hs hd (k := 0) (by omega)
  unfold g_ref38_Segment
  rw [hc]
  simp only [Option.bind_some, bne_self_eq_false, Bool.false_eq_true, if_false]
  rw [wr64 (x := (s.Words.length : Int) + 1) (by omega), wr64 (x := (s.Words.length : Int) - 1) (by omega), show ((s.Words.length : Int) + 1) = ((s.Words.length + 1 : Nat) : Int) by omega, mkI_nat 16 (s.Words.length + 1) _ (by omega) (by omega), mkI_nat 8 (s.Words.length + 1) _ (by omega) (by omega)]
  simp only [Option.bind_some]
  rw [he]
  simp only [Option.bind_some]
  rw [ha]
  simp only [Option.bind_some]
  by_cases h0 : C 0 = -1
  · rw [if_pos (by simp; omega), if_pos h0]
  · rw [if_neg (by simp; omega), if_neg h0, parts_ref hs hc hd h2 (hW h0)]
    simp only [Option.bind_some]
    rw [pots_ref (by omega), hpots]
    rfl
end Go.Proofs.YtalfcmgcjdkolaaGreatDoor
namespace Go.Proofs.YtalfcmgcjdkolaaGreatDoor
set_option maxRecDepth 100000
set_option maxHeartbeats 10000000
theorem eqP_same (l : List A_Part) (hl : l.length ≤ 1000000) (h : ∀ p ∈ l, p.Breaks.length ≤ 1000000) : g_slices_EqualFunc_api_Part_api_Part_api_Part_api_Part l l = some true := by
  unfold g_slices_EqualFunc_api_Part_api_Part_api_Part_api_Part
  rw [if_neg (by simp)]
  have key := iter_idx (step := g_slices_EqualFunc_api_Part_api_Part_api_Part_api_Part_s1 l l) l.length (by omega) (fun _ => .inr ()) (fun i hi => ?_) ?_
  · rw [key]; rfl
  · left
    unfold g_slices_EqualFunc_api_Part_api_Part_api_Part_api_Part_s1
    rw [if_pos (by simpa using hi), atI_nat hi, wr64 (by omega)]
    simp only [Option.bind_some, same_refl _ (h _ (List.getElem_mem hi)), if_true, and_self]
  · unfold g_slices_EqualFunc_api_Part_api_Part_api_Part_api_Part_s1
    rw [if_neg (by simp)]
theorem eqI64_same (l : List Int) (hl : l.length ≤ 1000000) : g_slices_Equal_int64_int64 l l = some true := by
  unfold g_slices_Equal_int64_int64
  rw [if_neg (by simp)]
  have key := iter_idx (step := g_slices_Equal_int64_int64_s1 l l) l.length (by omega) (fun _ => .inr ()) (fun i hi => ?_) ?_
  · rw [key]; rfl
  · left
    unfold g_slices_Equal_int64_int64_s1
    rw [if_pos (by simpa using hi), atI_nat hi, wr64 (by omega)]
    simp
  · unfold g_slices_Equal_int64_int64_s1
    rw [if_neg (by simp)]
theorem way_mem {s : A_Speech} {C : Nat → Int} {nx : Nat → Nat} {i : Nat} {W : List (Nat × Nat)} (h : Way s.Words.length (okQ s) C nx i W) : ∀ q ∈ W, okQ s q.1 q.2 = true := by
  induction h with
  | nil => simp
  | cons h1 h2 h3 h4 ih =>
    intro q hq
    rcases List.mem_cons.1 hq with rfl | hq
    · exact h3.2.2.1
    · exact ih q hq
theorem Segment_both {s : A_Speech} (h : Sok s) : ∃ q : A_Segments × Int, g_segment_Segment s = some q ∧ g_ref38_Segment s = some q ∧ q.1.Parts.length ≤ 8 ∧ (∀ p ∈ q.1.Parts, p.Breaks.length ≤ 4) ∧ q.1.Potentials.length ≤ 9 := by
  by_cases h0 : ckSp s = 0
  rotate_left
  · have hb : (ckSp s != 0) = true := by simpa using h0
    refine ⟨(⟨[], 0, []⟩, ckSp s), ?_, ?_, by simp, by simp, by simp⟩
    · simp only [g_segment_Segment, seg_Check h, Option.bind_some, hb, if_true]
    · simp only [g_ref38_Segment, ref_segCheck h, Option.bind_some, hb, if_true]
  have hs := ckSp_0 h h0
  have hn := h.words
  obtain ⟨C, Pn, nx, hd⟩ := dp_ex hs
  by_cases hv : C 0 = -1
  · refine ⟨_, Segment_prog hs h0 hd (W := []) (fun h => absurd hv h), Segment_ref hs h0 hd (W := []) (fun h => absurd hv h), ?_, ?_, ?_⟩ <;> rw [if_pos hv] <;> simp
  · obtain ⟨W, hW⟩ := way_exists hd s.Words.length 0 (by omega) (by omega) hv
    have hwl := way_len hW
    refine ⟨_, Segment_prog hs h0 hd (fun _ => hW), Segment_ref hs h0 hd (fun _ => hW), ?_, ?_, ?_⟩ <;> rw [if_neg hv]
    · simp; omega
    · intro p hp
      obtain ⟨q, hq, rfl⟩ := List.mem_map.1 hp
      obtain ⟨a1, a2, _⟩ := okQ_t.1 (way_mem hW q hq)
      exact (pq_eq hs a1 a2).2.2.1
    · simp; omega
theorem SegmentDivides_true (s : A_Speech) (h : Szs s) : g_law38_SegmentDivides s = some true := by
  obtain ⟨s', h1, h2⟩ := few_eq h
  obtain ⟨q, q1, q2, q3, q4, q5⟩ := Segment_both h2
  simp only [g_law38_SegmentDivides, awake38, h1, q1, q2, eqP_same q.1.Parts (by omega) (fun p hp => by have := q4 p hp; omega), eqI64_same q.1.Potentials (by omega), Option.bind_some, if_true, beq_self_eq_true]
end Go.Proofs.YtalfcmgcjdkolaaGreatDoor
namespace Go.Proofs.YtalfcmgcjdkolaaGreatDoor
open Go.ChangeShapes Go.WideShapes Go.ChangeAt Go.RowKit
set_option maxRecDepth 100000
theorem own : ownKnob Tryz.prog.godebug = none := by kernel_rfl
theorem laidOut : laidOutB Tryz.prog = true := by kernel_rfl
theorem standIn_all (ts : List TypeId) (h : ts.all (fun t => !(Tryz.prog.wantsStandIn t)) = true) (t : TypeId) (ht : t ∈ ts) : Tryz.pinned.checked.prog.wantsStandIn t = false := by
  have := List.all_eq_true.1 h t ht
  exact (show Tryz.prog.wantsStandIn t = false by simpa using this)
def putCells (cs : Array Value) : Obj → Obj
  | .cells _ t frozen => .cells cs t frozen
  | o => o
theorem u8t_of9 {W : World} (h : laidMetH Tryz.prog [("unicode/utf8.acceptRanges", Rows.laid_unicode_utf8_acceptRanges), ("unicode/utf8.first", Rows.laid_unicode_utf8_first)] W) : U8T W :=
  utf8Tabs_of_readsT (U8Types.of196 Tryz.laysValid) ⟨by kernel_rfl, by kernel_rfl, by kernel_rfl, by kernel_rfl, by kernel_rfl, by kernel_rfl, by kernel_rfl⟩ (Lib.laidMet.reads h (.tail _ (.head _))) (Lib.laidMet.reads h (.head _))
theorem cell_keep {w w' : World} {g c : Nat} {v : Value} (h : w.cell? ⟨g, c, none⟩ = some v) (hb : Below w.heap.size w w') : w'.cell? ⟨g, c, none⟩ = some v := by
  have hlt : g < w.heap.size := by
    rcases Nat.lt_or_ge g w.heap.size with h1 | h1
    · exact h1
    · simp [World.cell?, Array.getElem?_eq_none h1] at h
  rw [World.cell?_of_block (hb.block g hlt)]
  exact h
theorem stabU8T : Stab U8T := fun w w' h hb => ⟨fun c hc => cell_keep (h.1 c hc) hb, fun i hi => ⟨cell_keep (h.2 i hi).1 hb, cell_keep (h.2 i hi).2 hb⟩⟩
theorem shp_of {W : World} (h : W.ShapedOpen Tryz.prog) : Shp W :=
  cell_of_shapedOpen_int (k := .i64) (t := 3) (zero := #[.int .i64 0]) h (of_decide_eq_true (by kernel_rfl)) (by kernel_rfl) rfl (by kernel_rfl) (by kernel_rfl) Tryz.underlying3
def Env9 (w : World) : Prop := U8T w ∧ Shp w
theorem stabEnv9 : Stab Env9 := fun w w' ⟨a, b⟩ hb => ⟨stabU8T w w' a hb, stabShp w w' b hb⟩
theorem env_of9 {W : World} (h : laidMetH Tryz.prog [("unicode/utf8.acceptRanges", Rows.laid_unicode_utf8_acceptRanges), ("unicode/utf8.first", Rows.laid_unicode_utf8_first)] W) (hs : W.ShapedOpen Tryz.prog) : Env9 W := ⟨u8t_of9 h, shp_of hs⟩
noncomputable def laidWorld9 (os : Os) : World :=
  { (World.holding Tryz.prog os ⟨#[], #[], []⟩) with heap := (((World.holding Tryz.prog os ⟨#[], #[], []⟩).heap.modify 1 (putCells #[.int .u8 128, .int .u8 191, .int .u8 160, .int .u8 191, .int .u8 128, .int .u8 159, .int .u8 144, .int .u8 191, .int .u8 128, .int .u8 143, .int .u8 0, .int .u8 0, .int .u8 0, .int .u8 0, .int .u8 0, .int .u8 0, .int .u8 0, .int .u8 0, .int .u8 0, .int .u8 0, .int .u8 0, .int .u8 0, .int .u8 0, .int .u8 0, .int .u8 0, .int .u8 0, .int .u8 0, .int .u8 0, .int .u8 0, .int .u8 0, .int .u8 0, .int .u8 0])).modify 0 (putCells (Pinned.utf8FirstZ.map fun (z : Nat) => Value.int .u8 (z : Int)).toArray)) }
end Go.Proofs.YtalfcmgcjdkolaaGreatDoor
namespace Go.Proofs.YtalfcmgcjdkolaaGreatDoor
set_option maxRecDepth 100000
def A_Span.sz (x : A_Span) : Prop := (True) ∧ (True) ∧ True
def A_Word.sz (x : A_Word) : Prop := (x.Text.length ≤ 1048576) ∧ (A_Span.sz x.Span) ∧ True
def T_arr6_Int.sz (x : T_arr6_Int) : Prop := (True) ∧ (True) ∧ (True) ∧ (True) ∧ (True) ∧ (True)
def A_Penalties.sz (x : A_Penalties) : Prop := (T_arr6_Int.sz x.Sg) ∧ (True) ∧ (True) ∧ (True) ∧ (True) ∧ (True) ∧ (True) ∧ True
def A_Profile.sz (x : A_Profile) : Prop := (x.Name.length ≤ 1048576) ∧ (True) ∧ (True) ∧ (True) ∧ (True) ∧ (True) ∧ (True) ∧ (True) ∧ (True) ∧ (x.Fbd.length ≤ 1048576) ∧ (True) ∧ (True) ∧ (True) ∧ (True) ∧ True
def A_Speech.sz (x : A_Speech) : Prop := (True) ∧ (x.Words.length ≤ 1048576 ∧ ∀ a ∈ x.Words, A_Word.sz a) ∧ (x.Shots.length ≤ 1048576 ∧ ∀ a ∈ x.Shots, True) ∧ (A_Penalties.sz x.Table) ∧ (A_Profile.sz x.House) ∧ True
theorem szs_of {s : A_Speech} (h : A_Speech.sz s) (hr : 0 ≤ s.Rate ∧ s.Rate ≤ 255) : Szs s :=
  ⟨hr, fun w hw => (h.2.1.2 w hw).1, h.2.2.2.2.1.1, h.2.2.2.2.1.2.2.2.2.2.2.2.2.2.1⟩
theorem speech_rate {ds : List D} {s : A_Speech} (h : ∀ d ∈ ds, Sz d) (hm : s.d ∈ ds) : 0 ≤ s.Rate ∧ s.Rate ≤ 255 :=
  Sz_u8.1 (Sz_agg.1 (h _ hm) (.int .u8 s.Rate) (by simp))
end Go.Proofs.YtalfcmgcjdkolaaGreatDoor
namespace Go.Proofs.YtalfcmgcjdkolaaGreatDoor
set_option maxRecDepth 100000
theorem law_SegmentDivides (s : A_Speech) (hB : A_Speech.sz s) : AFun Tryz.prog Env9 4 [s.d] (.bool true) := by
  refine AFun.sized (by kernel_rfl) fun hz => ?_
  exact a_law38_SegmentDivides stabEnv9 (fun _ h => h.2) (fun _ h => h.1) (SegmentDivides_true s (szs_of hB (speech_rate hz (by simp))))
end Go.Proofs.YtalfcmgcjdkolaaGreatDoor
namespace Go.Proofs.YtalfcmgcjdkolaaGreatDoor
open Go.ChangeShapes Go.WideShapes Go.ChangeAt Go.RowKit Go.Joins
set_option maxRecDepth 100000
def FA (w : World) : Nat → Nat → Prop := fun b _ => b < w.heap.size
theorem FA_fb (w : World) : FB (cF (FA w)) w := fun _ _ h => h
theorem wf_inR {k : IntKind} {n : Int} (h : (Lit.int k n).wf = true) : inR k n := by
  simp only [Lit.wf, Bool.and_eq_true, decide_eq_true_eq] at h
  cases k <;> simp [IntKind.min, IntKind.max, IntKind.signed, IntKind.bits] at h <;> simp [inR, kLo, kHi] <;> omega
theorem strOfBytes (s : ByteArray) : (⟨s.data.toList.toArray⟩ : ByteArray) = s := by cases s; simp
theorem AFun.law {P : Program} {I : World → Prop} {f : FuncId} {ds : List D} (h : AFun P I f ds (.bool true)) {W : World} {args : List Value} (hI : I W) (hl : args.length = ds.length) (hr : ∀ (i : Nat) v d, args[i]? = some v → ds[i]? = some d → Rep W (cF (FA W)) v d) :
    Calls P f args.toArray W fun e w' => e = .returned (.bool true) ∧ Below W.heap.size W w' := by
  refine (h.2 W (FA W) args hI (FA_fb W) hl hr).mono ?_
  rintro e w' ⟨v, F', rfl, hb, _, _, _, hrep⟩
  cases hrep
  exact ⟨rfl, hb⟩
section
variable (H : Type) (enc : TypeId × Value → H) (P : Program)
def OpT {α : Type} (t : TypeId) (δ : α → D) : Prop :=
  ∀ (w : World) (fuel : Nat) (cs : List Value) (x : DataW H × List MemPlace), DataW.trod enc P w 0 (fun _ => true) true fuel t cs = some x → ∃ a : α, RepL (cF (FA w)) w cs (δ a).cells
def OpF {α : Type} (fs : List Field) (off : Nat) (γ : α → List D) : Prop :=
  ∀ (w : World) (fuel : Nat) (cs : List Value), off ≤ cs.length → (∀ f ∈ fs, ∃ x, DataW.trod enc P w 0 (fun _ => true) true fuel f.type ((cs.drop f.offset).take (P.cellsOf f.type)) = some x) → (fs = [] → cs.length = off) → (∀ f ∈ fs, f.offset + P.cellsOf f.type ≤ cs.length) → ((fs.map fun f => P.cellsOf f.type).sum + off = cs.length) → ∃ a : α, RepL (cF (FA w)) w (cs.drop off) (γ a)
end
section
variable {H : Type} {enc : TypeId × Value → H} {P : Program}
theorem OpT.int {t : TypeId} {k : IntKind} (ht : P.underlying t = some (.int k)) : OpT H enc P t (D.int k) := by
  intro w fuel cs x h
  obtain ⟨n, rfl, _, hw⟩ := DataW.trod_int ht h
  exact ⟨n, RepL.one1 rfl (.int _ _ (wf_inR hw))⟩
theorem OpT.bool {t : TypeId} (ht : P.underlying t = some .bool) : OpT H enc P t D.bool := by
  intro w fuel cs x h
  obtain ⟨n, rfl, _⟩ := DataW.trod_bool ht h
  exact ⟨n, RepL.one1 rfl (.bool _)⟩
theorem rep_strB {w : World} {C : Cx} (s : ByteArray) (h : s.size ≤ maxLen) : Rep w C (.string s) (.str s.data.toList) := by
  have := Rep.str (w := w) (C := C) s.data.toList (by rw [Array.length_toList]; exact h)
  rwa [strOfBytes] at this
theorem OpT.str {t : TypeId} (ht : P.underlying t = some .string) : OpT H enc P t D.str := by
  intro w fuel cs x h
  obtain ⟨s, rfl, _, hs⟩ := DataW.trod_string ht h
  exact ⟨s.data.toList, RepL.one1 rfl (rep_strB s hs)⟩
theorem OpT.map {α β : Type} {t : TypeId} {δ : α → D} {ε : β → D} (h : OpT H enc P t δ) (φ : α → β) (hφ : ∀ a, ε (φ a) = δ a) : OpT H enc P t ε := by
  intro w fuel cs x hx
  obtain ⟨a, ha⟩ := h w fuel cs x hx
  exact ⟨φ a, by rw [hφ]; exact ha⟩
theorem OpF.nil {off : Nat} : OpF H enc P [] off (fun _ : Unit => []) := by
  intro w fuel cs h1 h2 h3 h4 h5
  refine ⟨(), ?_⟩
  rw [List.drop_eq_nil_of_le (by have := h3 rfl; omega)]
  exact RepL.nil
theorem OpF.cons {α β : Type} {f : Field} {fs : List Field} {off : Nat} {δ : α → D} {γ : β → List D} (ho : f.offset = off) (h : OpT H enc P f.type δ) (hr : OpF H enc P fs (off + P.cellsOf f.type) γ) : OpF H enc P (f :: fs) off (fun p : α × β => (δ p.1).cells ++ γ p.2) := by
  intro w fuel cs h1 h2 h3 h4 h5
  subst ho
  obtain ⟨x, hx⟩ := h2 f (by simp)
  obtain ⟨a, ha⟩ := h w fuel _ x hx
  have hlen : f.offset + P.cellsOf f.type ≤ cs.length := h4 f (by simp)
  simp only [List.map_cons, List.sum_cons] at h5
  obtain ⟨b, hb⟩ := hr w fuel cs hlen (fun g hg => h2 g (by simp [hg])) (fun e => by subst e; simp at h5; omega) (fun g hg => h4 g (by simp [hg])) (by omega)
  refine ⟨(a, b), ?_⟩
  have := ha.append hb
  rw [show (cs.drop f.offset).take (P.cellsOf f.type) ++ cs.drop (f.offset + P.cellsOf f.type) = cs.drop f.offset by rw [← List.drop_drop]; exact List.take_append_drop _ _] at this
  exact this
theorem OpT.struct {α β : Type} {t : TypeId} {fs : Array Field} {γ : α → List D} {ε : β → D} (ht : P.underlying t = some (.struct fs)) (hoff : (fs.toList.all fun f => decide (f.offset + P.cellsOf f.type ≤ P.cellsOf t)) = true) (hsum : (fs.toList.map fun f => P.cellsOf f.type).sum = P.cellsOf t) (h : OpF H enc P fs.toList 0 γ) (φ : α → β) (hφ : ∀ a, (ε (φ a)).cells = γ a) : OpT H enc P t ε := by
  intro w fuel cs x hx
  obtain ⟨xs, n, _, _, hl, hxl, hf⟩ := DataW.trod_struct ht hx
  obtain ⟨a, ha⟩ := h w n cs (Nat.zero_le _) (fun f hf' => by
    obtain ⟨i, hi, rfl⟩ := List.getElem_of_mem hf'
    have hi' : fs[i]? = some fs.toList[i] := by simp at hi ⊢
    have := hf i _ hi'
    rw [List.getElem?_eq_getElem (by rw [hxl]; simpa using hi)] at this
    exact ⟨_, this⟩) (fun e => by rw [e] at hsum; simp at hsum; omega) (fun f hf' => by have := List.all_eq_true.1 hoff f hf'; simp at this; omega) (by omega)
  refine ⟨φ a, ?_⟩
  rw [hφ]
  simpa using ha
theorem addr_addO (b o i : Nat) : (⟨b, o, none⟩ : Addr).add i = ⟨b, o + i, none⟩ := by
  unfold Addr.add
  split
  · rename_i e; subst e; rfl
  · rfl
theorem rows_of {w : World} {b off k : Nat} {α : Type} {δ : α → D} (hk : ∀ a, (δ a).cells.length = k) : ∀ (n : Nat) (s : Nat), (∀ i, i < n → ∃ cs', (∀ j, j < k → w.cell? ⟨b, off + (s + i) * k + j, none⟩ = cs'[j]?) ∧ cs'.length = k ∧ ∃ a : α, RepL (cF (FA w)) w cs' (δ a).cells) →
    ∃ (l : List α) (vals : List Value), l.length = n ∧ vals.length = n * k ∧ RepL (cF (FA w)) w vals ((l.map δ).flatMap D.cells) ∧ ∀ (i : Nat) v, vals[i]? = some v → w.cell? ⟨b, off + s * k + i, none⟩ = some v := by
  intro n
  induction n with
  | zero => intro s _; exact ⟨[], [], rfl, by simp, RepL.nil, by simp⟩
  | succ n ih =>
    intro s h
    obtain ⟨cs, hc, hcl, a, ha⟩ := h 0 (by omega)
    obtain ⟨l, vals, h1, h2, h3, h4⟩ := ih (s + 1) (fun i hi => by
      obtain ⟨cs', hh⟩ := h (i + 1) (by omega)
      refine ⟨cs', ?_⟩
      rw [show s + 1 + i = s + (i + 1) by omega]
      exact hh)
    refine ⟨a :: l, cs ++ vals, by simp [h1], by rw [List.length_append, hcl, h2, Nat.add_mul]; omega, ?_, ?_⟩
    · simp only [List.map_cons, List.flatMap_cons]
      exact ha.append h3
    · intro i v hv
      by_cases hi : i < k
      · rw [List.getElem?_append_left (by omega)] at hv
        have := hc i hi
        rw [Nat.add_zero] at this
        rw [this, hv]
      · rw [List.getElem?_append_right (by omega)] at hv
        have := h4 _ v hv
        rw [hcl] at this
        rw [← this]
        congr 2
        rw [Nat.add_mul]
        omega
theorem OpT.slice {α : Type} {t e : TypeId} {δ : α → D} (ht : P.underlying t = some (.slice e)) (hpos : 0 < P.cellsOf e) (hk : ∀ a, (δ a).cells.length = P.cellsOf e) (h : OpT H enc P e δ) : OpT H enc P t (fun l : List α => D.sl (l.map δ)) := by
  intro w fuel cs x hx
  rcases Deep.open_slice ht hx with ⟨rfl, _⟩ | ⟨a, len, cap, m, n, Dd, Pl, rfl, hb, hl, hm, hmm, _, hel⟩
  · exact ⟨[], RepL.one1 rfl (.sl0 _ _ (Nat.zero_le _))⟩
  · simp only [if_true] at hmm
    subst hmm
    by_cases h0 : len = 0
    · subst h0
      exact ⟨[], RepL.one1 rfl (.sl0 _ _ hm)⟩
    · obtain ⟨b, off, spot⟩ := a
      obtain ⟨c0, hc0, _⟩ := hel 0 (by omega)
      obtain ⟨_, hl0, hg0⟩ := World.cells?_some hc0
      have hcell0 := hg0 0 hpos
      have hx0 : c0[0]? = some (c0[0]'(by omega)) := List.getElem?_eq_getElem _
      rw [hx0] at hcell0
      have hspot : spot = none := by simpa [Addr.add] using World.cell?_spot hcell0
      subst hspot
      have hbl : b < w.heap.size := by
        rcases Nat.lt_or_ge b w.heap.size with h1 | h1
        · exact h1
        · simp [Addr.add, World.cell?, Array.getElem?_eq_none h1] at hcell0
      obtain ⟨l, vals, h1, h2, h3, h4⟩ := rows_of (w := w) (b := b) (off := off) (k := P.cellsOf e) hk len 0 (fun i hi => by
        obtain ⟨cs', hc', ht'⟩ := hel i (by omega)
        obtain ⟨_, hl', hg'⟩ := World.cells?_some hc'
        refine ⟨cs', fun j hj => ?_, hl', h w n cs' _ ht'⟩
        have := hg' j hj
        rw [addr_addO, addr_addO] at this
        rw [← this]
        simp)
      refine ⟨l, RepL.one1 rfl ?_⟩
      have hkk : ∀ x ∈ l.map δ, x.cells.length = P.cellsOf e := fun x hx => by obtain ⟨y, _, rfl⟩ := List.mem_map.1 hx; exact hk y
      have := Rep.sl (w := w) (C := cF (FA w)) b off (P.cellsOf e) m (l.map δ) vals (by simp [h1]; omega) hm hkk h3.len h3.one (fun _ _ => hbl) (fun i v hv => by have := h4 i v hv; simpa using this) (fun i v d hv hd => h3.rep i v d hv hd)
      rw [List.length_map, h1] at this
      exact this
theorem arr_rows {α : Type} {e : TypeId} {δ : α → D} (h : OpT H enc P e δ) (w : World) (fuel : Nat) (cs : List Value) (k : Nat) : ∀ (n s : Nat), (∀ i, s ≤ i → i < s + n → ∃ x, DataW.trod enc P w 0 (fun _ => true) true fuel e ((cs.drop (i * k)).take k) = some x) → cs.length = (s + n) * k →
    ∃ l : List α, l.length = n ∧ RepL (cF (FA w)) w (cs.drop (s * k)) (l.flatMap fun a => (δ a).cells) := by
  intro n
  induction n with
  | zero => intro s _ hl; exact ⟨[], rfl, by rw [List.drop_eq_nil_of_le (by rw [hl]; exact Nat.le_refl _)]; exact RepL.nil⟩
  | succ n ih =>
    intro s hx hl
    obtain ⟨x, hx0⟩ := hx s (by omega) (by omega)
    obtain ⟨a, ha⟩ := h w fuel _ x hx0
    obtain ⟨l, hll, hr⟩ := ih (s + 1) (fun i h1 h2 => hx i (by omega) (by omega)) (by rw [hl]; congr 1; omega)
    refine ⟨a :: l, by simp [hll], ?_⟩
    have := ha.append hr
    rw [show (cs.drop (s * k)).take k ++ cs.drop ((s + 1) * k) = cs.drop (s * k) by rw [show (s + 1) * k = s * k + k by rw [Nat.add_mul]; omega, ← List.drop_drop]; exact List.take_append_drop _ _] at this
    exact this
theorem OpT.array {α β : Type} {t e : TypeId} {n : Nat} {δ : α → D} {ε : β → D} (ht : P.underlying t = some (.array n e)) (hc : P.cellsOf t = n * P.cellsOf e) (h : OpT H enc P e δ) (φ : (l : List α) → l.length = n → β) (hφ : ∀ l h, (ε (φ l h)).cells = l.flatMap fun a => (δ a).cells) : OpT H enc P t ε := by
  intro w fuel cs x hx
  obtain ⟨xs, m, _, _, hl, hxl, hf⟩ := DataW.trod_array ht hx
  obtain ⟨l, hll, hr⟩ := arr_rows h w m cs (P.cellsOf e) n 0 (fun i _ hi => by
    have := hf i (by omega)
    rw [List.getElem?_eq_getElem (by omega)] at this
    exact ⟨_, this⟩) (by rw [hl, hc, Nat.zero_add])
  refine ⟨φ l hll, ?_⟩
  rw [hφ]
  simpa using hr
theorem OpT.argS {α : Type} {t : TypeId} {δ : α → D} {cs : Array Value} (h : OpT H enc P t δ) {w : World} {d : DataW H} {p : List MemPlace} (hδ : ∀ a, ∃ ds, δ a = .agg ds) (ht : DataW.Trod enc P w 0 (fun _ => true) true t (.agg cs) d p) : ∃ a, Rep w (cF (FA w)) (.agg cs) (δ a) := by
  obtain ⟨fuel, hf⟩ := ht
  obtain ⟨a, ha⟩ := h w fuel _ _ hf
  refine ⟨a, ?_⟩
  obtain ⟨ds, hd⟩ := hδ a
  rw [hd] at ha ⊢
  have := ha.agg
  simpa [Value.cells, D.cells] using this
theorem OpT.argStruct {α : Type} {t : TypeId} {fs : Array Field} {δ : α → D} (ht : P.underlying t = some (.struct fs)) (h : OpT H enc P t δ) (hδ : ∀ a, ∃ ds, δ a = .agg ds) {w : World} {r : Reach} {b0 : Nat} {v : Value} {d : DataW H} {p : List MemPlace} (hv : Value.okWide P w r b0 t v) (hd : DataW.Trod enc P w 0 (fun _ => true) true t v d p) : ∃ a, Rep w (cF (FA w)) v (δ a) := by
  obtain ⟨_, rfl, _⟩ := okWide_struct ht hv
  exact h.argS hδ hd
end
end Go.Proofs.YtalfcmgcjdkolaaGreatDoor
namespace Go.Proofs.YtalfcmgcjdkolaaGreatDoor
open Go.ChangeShapes Go.WideShapes Go.ChangeAt Go.RowKit Go.Joins
set_option maxRecDepth 100000
theorem bulk_pos {H : Type} (d : DataW H) : 1 ≤ Rows.uptoBulk d := by
  cases d with
  | lit l => cases l <;> simp [Rows.uptoBulk]
  | _ => simp [Rows.uptoBulk]
theorem bulk_mem {H : Type} : ∀ {l : List (DataW H)} {d : DataW H}, d ∈ l → Rows.uptoBulk d ≤ Rows.uptoBulkAll l
  | a :: l, d, h => by
    unfold Rows.uptoBulkAll
    rcases List.mem_cons.1 h with rfl | h
    · omega
    · have := bulk_mem h; omega
theorem bulk_len {H : Type} : ∀ (l : List (DataW H)), l.length ≤ Rows.uptoBulkAll l
  | [] => by simp [Rows.uptoBulkAll]
  | a :: l => by
    unfold Rows.uptoBulkAll
    have := bulk_pos a; have := bulk_len l
    simp only [List.length_cons]; omega
section
variable (H : Type) (enc : TypeId × Value → H) (P : Program) (n : Nat)
def OpTB {α : Type} (t : TypeId) (δ : α → D) (B : α → Prop) : Prop :=
  ∀ (w : World) (fuel : Nat) (cs : List Value) (x : DataW H × List MemPlace), DataW.trod enc P w 0 (fun _ => true) true fuel t cs = some x → Rows.uptoBulk x.1 ≤ n → ∃ a : α, RepL (cF (FA w)) w cs (δ a).cells ∧ B a
def OpFB {α : Type} (fs : List Field) (off : Nat) (γ : α → List D) (B : α → Prop) : Prop :=
  ∀ (w : World) (fuel : Nat) (cs : List Value), off ≤ cs.length → (∀ f ∈ fs, ∃ x : DataW H × List MemPlace, DataW.trod enc P w 0 (fun _ => true) true fuel f.type ((cs.drop f.offset).take (P.cellsOf f.type)) = some x ∧ Rows.uptoBulk x.1 ≤ n) → (fs = [] → cs.length = off) → (∀ f ∈ fs, f.offset + P.cellsOf f.type ≤ cs.length) → ((fs.map fun f => P.cellsOf f.type).sum + off = cs.length) → ∃ a : α, RepL (cF (FA w)) w (cs.drop off) (γ a) ∧ B a
end
section
variable {H : Type} {enc : TypeId × Value → H} {P : Program} {n : Nat}
theorem OpTB.int {t : TypeId} {k : IntKind} (ht : P.underlying t = some (.int k)) : OpTB H enc P n t (D.int k) (fun _ => True) := by
  intro w fuel cs x h _
  obtain ⟨a, ha⟩ := OpT.int ht w fuel cs x h
  exact ⟨a, ha, trivial⟩
theorem OpTB.bool {t : TypeId} (ht : P.underlying t = some .bool) : OpTB H enc P n t D.bool (fun _ => True) := by
  intro w fuel cs x h _
  obtain ⟨a, ha⟩ := OpT.bool ht w fuel cs x h
  exact ⟨a, ha, trivial⟩
theorem OpTB.str {t : TypeId} (ht : P.underlying t = some .string) : OpTB H enc P n t D.str (fun s => s.length ≤ n) := by
  intro w fuel cs x h hn
  obtain ⟨s, rfl, rfl, hs⟩ := DataW.trod_string ht h
  refine ⟨s.data.toList, RepL.one1 rfl (rep_strB s hs), ?_⟩
  simp only [Rows.uptoBulk] at hn
  omega
theorem OpFB.nil {off : Nat} : OpFB H enc P n [] off (fun _ : Unit => []) (fun _ => True) := by
  intro w fuel cs h1 h2 h3 h4 h5
  refine ⟨(), ?_, trivial⟩
  rw [List.drop_eq_nil_of_le (by have := h3 rfl; omega)]
  exact RepL.nil
theorem OpFB.cons {α β : Type} {f : Field} {fs : List Field} {off : Nat} {δ : α → D} {γ : β → List D} {A : α → Prop} {B : β → Prop} (ho : f.offset = off) (h : OpTB H enc P n f.type δ A) (hr : OpFB H enc P n fs (off + P.cellsOf f.type) γ B) : OpFB H enc P n (f :: fs) off (fun p : α × β => (δ p.1).cells ++ γ p.2) (fun p => A p.1 ∧ B p.2) := by
  intro w fuel cs h1 h2 h3 h4 h5
  subst ho
  obtain ⟨x, hx, hxn⟩ := h2 f (by simp)
  obtain ⟨a, ha, hA⟩ := h w fuel _ x hx hxn
  have hlen : f.offset + P.cellsOf f.type ≤ cs.length := h4 f (by simp)
  simp only [List.map_cons, List.sum_cons] at h5
  obtain ⟨b, hb, hB⟩ := hr w fuel cs hlen (fun g hg => h2 g (by simp [hg])) (fun e => by subst e; simp at h5; omega) (fun g hg => h4 g (by simp [hg])) (by omega)
  refine ⟨(a, b), ?_, hA, hB⟩
  have := ha.append hb
  rw [show (cs.drop f.offset).take (P.cellsOf f.type) ++ cs.drop (f.offset + P.cellsOf f.type) = cs.drop f.offset by rw [← List.drop_drop]; exact List.take_append_drop _ _] at this
  exact this
theorem OpTB.struct {α β : Type} {t : TypeId} {fs : Array Field} {γ : α → List D} {ε : β → D} {A : α → Prop} {B : β → Prop} (ht : P.underlying t = some (.struct fs)) (hoff : (fs.toList.all fun f => decide (f.offset + P.cellsOf f.type ≤ P.cellsOf t)) = true) (hsum : (fs.toList.map fun f => P.cellsOf f.type).sum = P.cellsOf t) (h : OpFB H enc P n fs.toList 0 γ A) (φ : α → β) (hφ : ∀ a, (ε (φ a)).cells = γ a) (hB : ∀ a, A a → B (φ a)) : OpTB H enc P n t ε B := by
  intro w fuel cs x hx hn
  obtain ⟨xs, m, _, rfl, hl, hxl, hf⟩ := DataW.trod_struct ht hx
  obtain ⟨a, ha, hA⟩ := h w m cs (Nat.zero_le _) (fun f hf' => by
    obtain ⟨i, hi, rfl⟩ := List.getElem_of_mem hf'
    have hi' : fs[i]? = some fs.toList[i] := by simp at hi ⊢
    have := hf i _ hi'
    have hix : i < xs.length := by rw [hxl]; simpa using hi
    rw [List.getElem?_eq_getElem hix] at this
    refine ⟨_, this, ?_⟩
    have h1 := bulk_mem (List.mem_map_of_mem (f := (·.1)) (List.getElem_mem hix))
    simp only [Rows.uptoBulk] at hn
    omega) (fun e => by rw [e] at hsum; simp at hsum; omega) (fun f hf' => by have := List.all_eq_true.1 hoff f hf'; simp at this; omega) (by omega)
  refine ⟨φ a, ?_, hB a hA⟩
  rw [hφ]
  simpa using ha
theorem OpTB.slice {α : Type} {t e : TypeId} {δ : α → D} {A : α → Prop} (ht : P.underlying t = some (.slice e)) (hpos : 0 < P.cellsOf e) (hk : ∀ a, (δ a).cells.length = P.cellsOf e) (h : OpTB H enc P n e δ A) : OpTB H enc P n t (fun l : List α => D.sl (l.map δ)) (fun l => l.length ≤ n ∧ ∀ a ∈ l, A a) := by
  intro w fuel cs x hx hn
  rcases Deep.open_slice ht hx with ⟨rfl, _⟩ | ⟨a, len, cap, m, f, Dd, Pl, rfl, hb, hl, hm, hmm, rfl, hel⟩
  · exact ⟨[], RepL.one1 rfl (.sl0 _ _ (Nat.zero_le _)), by simp, by simp⟩
  · simp only [if_true] at hmm
    subst hmm
    by_cases h0 : len = 0
    · subst h0
      exact ⟨[], RepL.one1 rfl (.sl0 _ _ hm), by simp, by simp⟩
    · obtain ⟨b, off, spot⟩ := a
      obtain ⟨c0, hc0, _⟩ := hel 0 (by omega)
      obtain ⟨_, hl0, hg0⟩ := World.cells?_some hc0
      have hcell0 := hg0 0 hpos
      have hx0 : c0[0]? = some (c0[0]'(by omega)) := List.getElem?_eq_getElem _
      rw [hx0] at hcell0
      have hspot : spot = none := by simpa [Addr.add] using World.cell?_spot hcell0
      subst hspot
      have hbl : b < w.heap.size := by
        rcases Nat.lt_or_ge b w.heap.size with h1 | h1
        · exact h1
        · simp [Addr.add, World.cell?, Array.getElem?_eq_none h1] at hcell0
      simp only [Rows.uptoBulk] at hn
      have hln := bulk_len ((List.range len).map Dd)
      rw [List.length_map, List.length_range] at hln
      obtain ⟨l, vals, h1, h2, h3, h4⟩ := rows_of (w := w) (b := b) (off := off) (k := P.cellsOf e) (α := { a : α // A a }) (δ := fun a => δ a.1) (fun a => hk a.1) len 0 (fun i hi => by
        obtain ⟨cs', hc', ht'⟩ := hel i (by omega)
        obtain ⟨_, hl', hg'⟩ := World.cells?_some hc'
        refine ⟨cs', fun j hj => ?_, hl', ?_⟩
        · have := hg' j hj
          rw [addr_addO, addr_addO] at this
          rw [← this]
          simp
        · have hmem : Dd i ∈ (List.range len).map Dd := List.mem_map_of_mem (List.mem_range.2 hi)
          have := bulk_mem hmem
          obtain ⟨a, ha, hA⟩ := h w f cs' _ ht' (by dsimp only; omega)
          exact ⟨⟨a, hA⟩, ha⟩)
      have hmap : l.map (fun a => δ a.1) = (l.map (·.1)).map δ := by rw [List.map_map]; rfl
      rw [hmap] at h3
      refine ⟨l.map (·.1), RepL.one1 rfl ?_, by rw [List.length_map, h1]; omega, fun a ha => ?_⟩
      · have hkk : ∀ x ∈ (l.map (·.1)).map δ, x.cells.length = P.cellsOf e := fun x hx => by obtain ⟨y, _, rfl⟩ := List.mem_map.1 hx; exact hk y
        have := Rep.sl (w := w) (C := cF (FA w)) b off (P.cellsOf e) m ((l.map (·.1)).map δ) vals (by simp [h1]; omega) hm hkk h3.len h3.one (fun _ _ => hbl) (fun i v hv => by have := h4 i v hv; simpa using this) (fun i v d hv hd => h3.rep i v d hv hd)
        rw [List.length_map, List.length_map, h1] at this
        exact this
      · obtain ⟨y, _, rfl⟩ := List.mem_map.1 ha
        exact y.2
theorem arr_rowsB {α : Type} {e : TypeId} {δ : α → D} {A : α → Prop} (h : OpTB H enc P n e δ A) (w : World) (fuel : Nat) (cs : List Value) (k : Nat) : ∀ (m s : Nat), (∀ i, s ≤ i → i < s + m → ∃ x : DataW H × List MemPlace, DataW.trod enc P w 0 (fun _ => true) true fuel e ((cs.drop (i * k)).take k) = some x ∧ Rows.uptoBulk x.1 ≤ n) → cs.length = (s + m) * k →
    ∃ l : List α, l.length = m ∧ RepL (cF (FA w)) w (cs.drop (s * k)) (l.flatMap fun a => (δ a).cells) ∧ ∀ a ∈ l, A a := by
  intro m
  induction m with
  | zero => intro s _ hl; exact ⟨[], rfl, by rw [List.drop_eq_nil_of_le (by rw [hl]; exact Nat.le_refl _)]; exact RepL.nil, by simp⟩
  | succ m ih =>
    intro s hx hl
    obtain ⟨x, hx0, hxn⟩ := hx s (by omega) (by omega)
    obtain ⟨a, ha, hA⟩ := h w fuel _ x hx0 hxn
    obtain ⟨l, hll, hr, hAl⟩ := ih (s + 1) (fun i h1 h2 => hx i (by omega) (by omega)) (by rw [hl]; congr 1; omega)
    refine ⟨a :: l, by simp [hll], ?_, fun b hb => by
      rcases List.mem_cons.1 hb with rfl | hb
      · exact hA
      · exact hAl b hb⟩
    have := ha.append hr
    rw [show (cs.drop (s * k)).take k ++ cs.drop ((s + 1) * k) = cs.drop (s * k) by rw [show (s + 1) * k = s * k + k by rw [Nat.add_mul]; omega, ← List.drop_drop]; exact List.take_append_drop _ _] at this
    exact this
theorem OpTB.array {α β : Type} {t e : TypeId} {m : Nat} {δ : α → D} {ε : β → D} {A : α → Prop} {B : β → Prop} (ht : P.underlying t = some (.array m e)) (hc : P.cellsOf t = m * P.cellsOf e) (h : OpTB H enc P n e δ A) (φ : (l : List α) → l.length = m → β) (hφ : ∀ l h, (ε (φ l h)).cells = l.flatMap fun a => (δ a).cells) (hB : ∀ l h, (∀ a ∈ l, A a) → B (φ l h)) : OpTB H enc P n t ε B := by
  intro w fuel cs x hx hn
  obtain ⟨xs, k, _, rfl, hl, hxl, hf⟩ := DataW.trod_array ht hx
  obtain ⟨l, hll, hr, hA⟩ := arr_rowsB h w k cs (P.cellsOf e) m 0 (fun i _ hi => by
    have := hf i (by omega)
    rw [List.getElem?_eq_getElem (by omega)] at this
    refine ⟨_, this, ?_⟩
    have h1 := bulk_mem (List.mem_map_of_mem (f := (·.1)) (List.getElem_mem (l := xs) (n := i) (by omega)))
    simp only [Rows.uptoBulk] at hn
    omega) (by rw [hl, hc, Nat.zero_add])
  refine ⟨φ l hll, ?_, hB l hll hA⟩
  rw [hφ]
  simpa using hr
theorem OpTB.argStruct {α : Type} {t : TypeId} {fs : Array Field} {δ : α → D} {B : α → Prop} (ht : P.underlying t = some (.struct fs)) (h : OpTB H enc P n t δ B) (hδ : ∀ a, ∃ ds, δ a = .agg ds) {w : World} {r : Reach} {b0 : Nat} {v : Value} {d : DataW H} {p : List MemPlace} (hv : Value.okWide P w r b0 t v) (hd : DataW.Trod enc P w 0 (fun _ => true) true t v d p) (hn : Rows.uptoBulk d ≤ n) : ∃ a, Rep w (cF (FA w)) v (δ a) ∧ B a := by
  obtain ⟨cs, rfl, _⟩ := okWide_struct ht hv
  obtain ⟨fuel, hf⟩ := hd
  obtain ⟨a, ha, hB⟩ := h w fuel _ _ hf hn
  refine ⟨a, ?_, hB⟩
  obtain ⟨ds, hd⟩ := hδ a
  rw [hd] at ha ⊢
  have := ha.agg
  simpa [Value.cells, D.cells] using this
end
end Go.Proofs.YtalfcmgcjdkolaaGreatDoor
