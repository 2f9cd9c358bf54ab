/- Layer 40, plain: needed frames, speed, and what fits: ReadingNeeds and ReadingFits answer true. -/
import Derived.Test.YtipdmcpmedmicaaDoorHN
import Derived.Test.YtipdmcpmedmicaaDoorFwZ
set_option linter.unusedSimpArgs false
set_option linter.unusedVariables false
namespace Go.Proofs.YtipdmcpmedmicaaDoor
set_option maxRecDepth 100000

theorem awake40 : g_law40_awake = some true := by decide +kernel
/-- A rate that is one. -/
def rtV (r : Int) : Bool := decide (1 ≤ r) && decide (r ≤ 7)
def rtT (r : Int) : Int := if r = 1 then 5005 else if r = 2 then 5000 else if r = 3 then 4800 else if r = 4 then 4004 else if r = 5 then 4000 else if r = 6 then 2400 else if r = 7 then 2002 else 0
theorem rates_fin : ∀ r : Fin 256, g_timebase_Valid ((r.val : Nat) : Int) = some (rtV ((r.val : Nat) : Int)) ∧ g_ref02_Valid ((r.val : Nat) : Int) = some (rtV ((r.val : Nat) : Int)) ∧ g_timebase_Ticks ((r.val : Nat) : Int) = some (rtT ((r.val : Nat) : Int)) ∧
    (rtV ((r.val : Nat) : Int) = true → g_ref02_Ticks ((r.val : Nat) : Int) = some (rtT ((r.val : Nat) : Int)) ∧ 2002 ≤ rtT ((r.val : Nat) : Int) ∧ rtT ((r.val : Nat) : Int) ≤ 5005) := by decide +kernel
theorem rates (r : Int) (h0 : 0 ≤ r) (h1 : r ≤ 255) : g_timebase_Valid r = some (rtV r) ∧ g_ref02_Valid r = some (rtV r) ∧ g_timebase_Ticks r = some (rtT r) ∧ (rtV r = true → g_ref02_Ticks r = some (rtT r) ∧ 2002 ≤ rtT r ∧ rtT r ≤ 5005) := by
  have := rates_fin ⟨r.toNat, by omega⟩
  have e : ((r.toNat : Nat) : Int) = r := by omega
  simp only [e] at this
  exact this
def wiB (n lo hi : Int) : Bool := decide (lo ≤ n) && decide (n ≤ hi)
theorem within_eq (n lo hi : Int) : g_reading_within n lo hi = some (wiB n lo hi) := by
  unfold g_reading_within wiB
  cases decide (lo ≤ n) <;> simp
theorem within_ref (n lo hi : Int) : g_ref40_within n lo hi = some (wiB n lo hi) := by
  unfold g_ref40_within wiB
  cases decide (lo ≤ n) <;> simp
theorem wiB_t {n lo hi : Int} (h : wiB n lo hi = true) : lo ≤ n ∧ n ≤ hi := by
  unfold wiB at h; simpa using h
/-- A quotient that is rounded up. -/
def upQ (a b : Int) : Int := Int.tdiv (a + b - 1) b
theorem upQ_le {a b f : Int} (ha : 0 ≤ a) (hb : 0 < b) : upQ a b ≤ f ↔ a ≤ f * b := by
  unfold upQ
  rw [Int.tdiv_eq_ediv_of_nonneg (by omega)]
  constructor
  · intro h
    have h1 := Int.lt_mul_ediv_self_add (x := a + b - 1) hb
    have h2 : b * ((a + b - 1) / b) ≤ b * f := Int.mul_le_mul_of_nonneg_left h (by omega)
    rw [Int.mul_comm f b]
    omega
  · intro h
    have : (a + b - 1) / b < f + 1 := by
      refine Int.ediv_lt_of_lt_mul hb ?_
      rw [Int.add_mul]
      omega
    omega
def needS (r c l : Int) : Int × Int := if rtV r then (if wiB c 0 10000 && wiB l 1 10000 then (upQ (c * 12000000) (l * rtT r), 0) else (0, 2)) else (0, 3)
def speedS (r c f : Int) : Int × Int := if rtV r then (if wiB c 0 10000 && wiB f 1 5184000 then (upQ (c * 12000000) (f * rtT r), 0) else (0, 2)) else (0, 3)
def fitsS (r c f l : Int) : Bool × Int := if rtV r then (if wiB c 0 10000 && (wiB l 1 10000 && wiB f 0 5184000) then (decide (c * 12000000 ≤ l * f * rtT r), 0) else (false, 2)) else (false, 3)
theorem mul_small {x t : Int} (k : Int) (hx : 1 ≤ x) (hk : x ≤ k) (h1 : 2002 ≤ t) (h2 : t ≤ 5005) (hkk : k ≤ 5184000) : 1 ≤ x * t ∧ x * t ≤ 25945920000 := by
  have a1 : x * t ≤ 5184000 * t := Int.mul_le_mul_of_nonneg_right (by omega) (by omega)
  have a2 : 5184000 * t ≤ 5184000 * 5005 := Int.mul_le_mul_of_nonneg_left h2 (by omega)
  have a3 : 1 * t ≤ x * t := Int.mul_le_mul_of_nonneg_right hx (by omega)
  omega
theorem Needed_eq (r c l : Int) (h0 : 0 ≤ r) (h1 : r ≤ 255) : g_reading_Needed r c l = some (needS r c l) ∧ g_ref40_Needed r c l = some (needS r c l) := by
  obtain ⟨e1, e2, e3, e4⟩ := rates r h0 h1
  unfold g_reading_Needed g_ref40_Needed needS
  simp only [e1, e2, within_eq, within_ref, Option.bind_some]
  cases hv : rtV r with
  | false => simp
  | true =>
    obtain ⟨e5, t0, t1⟩ := e4 hv
    simp only [if_true, e3, e5, Option.bind_some]
    cases hc : wiB c 0 10000 with
    | false => simp
    | true =>
      cases hl : wiB l 1 10000 with
      | false => simp
      | true =>
        have hc' := wiB_t hc
        have hl' := wiB_t hl
        obtain ⟨m1, m2⟩ := mul_small 10000 hl'.1 hl'.2 t0 t1 (by omega)
        generalize l * rtT r = b at m1 m2
        have w0 := wrap_i64 (c * 100) (by omega) (by omega)
        have w1 := wrap_i64 (c * 100 * 120000) (by omega) (by omega)
        have w2 := wrap_i64 b (by omega) (by omega)
        have w3 := wrap_i64 (c * 100 * 120000 + b) (by omega) (by omega)
        have w4 := wrap_i64 (c * 100 * 120000 + b - 1) (by omega) (by omega)
        have hb : ¬ b = 0 := by omega
        have hq := upQ_le (a := c * 12000000) (b := b) (f := 120000000000) (by omega) (by omega)
        have hq1 : upQ (c * 12000000) b ≤ 120000000000 := hq.2 (by have := Int.mul_le_mul_of_nonneg_left m1 (show (0 : Int) ≤ 120000000000 by omega); omega)
        have hq0 : 0 ≤ upQ (c * 12000000) b := by unfold upQ; exact Int.tdiv_nonneg (by omega) (by omega)
        have eu : Int.tdiv (c * 100 * 120000 + b - 1) b = upQ (c * 12000000) b := by unfold upQ; congr 1; omega
        have w5 := wrap_i64 (upQ (c * 12000000) b) (by omega) (by omega)
        simp only [Bool.not_true, Bool.false_eq_true, if_false, Bool.and_self, if_true, g_reading_load, g_reading_up, Option.bind_some, w0, w1, w2, w3, w4, hb, not_false_eq_true, eu, w5, and_self]
theorem Speed_eq (r c f : Int) (h0 : 0 ≤ r) (h1 : r ≤ 255) : g_reading_Speed r c f = some (speedS r c f) ∧ g_ref40_Speed r c f = some (speedS r c f) := by
  obtain ⟨e1, e2, e3, e4⟩ := rates r h0 h1
  unfold g_reading_Speed g_ref40_Speed speedS
  simp only [e1, e2, within_eq, within_ref, Option.bind_some]
  cases hv : rtV r with
  | false => simp
  | true =>
    obtain ⟨e5, t0, t1⟩ := e4 hv
    simp only [if_true, e3, e5, Option.bind_some]
    cases hc : wiB c 0 10000 with
    | false => simp
    | true =>
      cases hl : wiB f 1 5184000 with
      | false => simp
      | true =>
        have hc' := wiB_t hc
        have hl' := wiB_t hl
        obtain ⟨m1, m2⟩ := mul_small 5184000 hl'.1 hl'.2 t0 t1 (by omega)
        generalize f * rtT r = b at m1 m2
        have w0 := wrap_i64 (c * 100) (by omega) (by omega)
        have w1 := wrap_i64 (c * 100 * 120000) (by omega) (by omega)
        have w2 := wrap_i64 b (by omega) (by omega)
        have w3 := wrap_i64 (c * 100 * 120000 + b) (by omega) (by omega)
        have w4 := wrap_i64 (c * 100 * 120000 + b - 1) (by omega) (by omega)
        have hb : ¬ b = 0 := by omega
        have hq := upQ_le (a := c * 12000000) (b := b) (f := 120000000000) (by omega) (by omega)
        have hq1 : upQ (c * 12000000) b ≤ 120000000000 := hq.2 (by have := Int.mul_le_mul_of_nonneg_left m1 (show (0 : Int) ≤ 120000000000 by omega); omega)
        have hq0 : 0 ≤ upQ (c * 12000000) b := by unfold upQ; exact Int.tdiv_nonneg (by omega) (by omega)
        have eu : Int.tdiv (c * 100 * 120000 + b - 1) b = upQ (c * 12000000) b := by unfold upQ; congr 1; omega
        have w5 := wrap_i64 (upQ (c * 12000000) b) (by omega) (by omega)
        simp only [Bool.not_true, Bool.false_eq_true, if_false, Bool.and_self, if_true, g_reading_load, g_reading_up, Option.bind_some, w0, w1, w2, w3, w4, hb, not_false_eq_true, eu, w5, and_self]
theorem ReadingNeeds_true (r c n : Int) (h0 : 0 ≤ r) (h1 : r ≤ 255) : g_law40_ReadingNeeds r c n = some true := by
  simp only [g_law40_ReadingNeeds, awake40, Option.bind_some, if_true, (Needed_eq r c n h0 h1).1, (Needed_eq r c n h0 h1).2, (Speed_eq r c n h0 h1).1, (Speed_eq r c n h0 h1).2, beq_self_eq_true]
theorem mul3_small {f l t : Int} (hf0 : 0 ≤ f) (hf : f ≤ 5184000) (hl0 : 1 ≤ l) (hl : l ≤ 10000) (h1 : 2002 ≤ t) (h2 : t ≤ 5005) : 0 ≤ l * f ∧ l * f ≤ 51840000000 ∧ 0 ≤ l * f * t ∧ l * f * t ≤ 259459200000000 := by
  have a1 : l * f ≤ 10000 * f := Int.mul_le_mul_of_nonneg_right hl hf0
  have a2 : 0 ≤ l * f := Int.mul_nonneg (by omega) hf0
  have a3 : l * f * t ≤ 51840000000 * t := Int.mul_le_mul_of_nonneg_right (by omega) (by omega)
  have a4 : 0 ≤ l * f * t := Int.mul_nonneg a2 (by omega)
  omega
theorem Fits_eq (r c f l : Int) (h0 : 0 ≤ r) (h1 : r ≤ 255) : g_reading_Fits r c f l = some (fitsS r c f l) ∧ g_ref40_Fits r c f l = some (fitsS r c f l) := by
  obtain ⟨e1, e2, e3, e4⟩ := rates r h0 h1
  unfold g_reading_Fits g_ref40_Fits fitsS
  simp only [e1, e2, within_eq, within_ref, Option.bind_some]
  cases hv : rtV r with
  | false => simp
  | true =>
    obtain ⟨e5, t0, t1⟩ := e4 hv
    simp only [if_true, e3, e5, Option.bind_some]
    cases hc : wiB c 0 10000 with
    | false => simp
    | true =>
      cases hl : wiB l 1 10000 with
      | false => simp
      | true =>
        cases hf : wiB f 0 5184000 with
        | false => simp
        | true =>
          have hc' := wiB_t hc
          have hl' := wiB_t hl
          have hf' := wiB_t hf
          obtain ⟨m1, m2, m3, m4⟩ := mul3_small hf'.1 hf'.2 hl'.1 hl'.2 t0 t1
          have w0 := wrap_i64 (c * 100) (by omega) (by omega)
          have w1 := wrap_i64 (c * 100 * 120000) (by omega) (by omega)
          have w2 := wrap_i64 (l * f) (by omega) (by omega)
          have w3 := wrap_i64 (l * f * rtT r) (by omega) (by omega)
          have e : c * 100 * 120000 = c * 12000000 := by omega
          rw [e] at w1
          simp only [Bool.not_true, Bool.false_eq_true, if_false, Bool.and_self, if_true, g_reading_load, Option.bind_some, w0, w1, w2, w3, and_self, e]
theorem ReadingFits_true (r : Int) (n : T_arr3_Int) (h0 : 0 ≤ r) (h1 : r ≤ 255) : g_law40_ReadingFits r n = some true := by
  simp only [g_law40_ReadingFits, awake40, Option.bind_some, if_true, (Needed_eq r n.a0 n.a2 h0 h1).1, (Speed_eq r n.a0 n.a1 h0 h1).1, (Fits_eq r n.a0 n.a1 n.a2 h0 h1).1, (Fits_eq r n.a0 n.a1 n.a2 h0 h1).2, beq_self_eq_true, bne_self_eq_false, Bool.false_eq_true, if_false]
  generalize n.a0 = c
  generalize n.a1 = f
  generalize n.a2 = l
  obtain ⟨_, _, _, e4⟩ := rates r h0 h1
  unfold fitsS needS speedS
  cases hv : rtV r with
  | false => simp
  | true =>
    obtain ⟨e5, t0, t1⟩ := e4 hv
    cases hc : wiB c 0 10000 with
    | false => simp
    | true =>
      cases hl : wiB l 1 10000 with
      | false => simp
      | true =>
        cases hf : wiB f 0 5184000 with
        | false => simp
        | true =>
          have hc' := wiB_t hc
          have hl' := wiB_t hl
          have hf' := wiB_t hf
          obtain ⟨m1, m2⟩ := mul_small 10000 hl'.1 hl'.2 t0 t1 (by omega)
          have k1 : decide (upQ (c * 12000000) (l * rtT r) ≤ f) = decide (c * 12000000 ≤ l * f * rtT r) := by
            refine decide_eq_decide.2 ?_
            rw [upQ_le (by omega) (by omega), show f * (l * rtT r) = l * f * rtT r by rw [← Int.mul_assoc, Int.mul_comm f l]]
          simp only [if_true, Bool.and_self, bne_self_eq_false, Bool.false_eq_true, if_false, k1, beq_self_eq_true, Bool.not_true, Option.bind_some]
          by_cases hf0 : f = 0
          · simp [hf0]
          · have hf1 : wiB f 1 5184000 = true := by unfold wiB; simp; omega
            obtain ⟨m3, m4⟩ := mul_small 5184000 (x := f) (by omega) hf'.2 t0 t1 (by omega)
            have k2 : decide (upQ (c * 12000000) (f * rtT r) ≤ l) = decide (c * 12000000 ≤ l * f * rtT r) := by
              refine decide_eq_decide.2 ?_
              rw [upQ_le (by omega) (by omega), Int.mul_assoc]
            have hfb : (f == 0) = false := by simpa using hf0
            simp only [hf1, if_true, Bool.and_self, hfb, Bool.false_eq_true, if_false, k2, beq_self_eq_true]
end Go.Proofs.YtipdmcpmedmicaaDoor
