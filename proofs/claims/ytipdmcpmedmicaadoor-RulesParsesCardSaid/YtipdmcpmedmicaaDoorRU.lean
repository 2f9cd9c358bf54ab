/- Plain laws: no program in sight. (Picked out of texts of mine by pick2.py.) -/
import Derived.Test.YtipdmcpmedmicaaDoorFwZ
import Derived.Test.YtipdmcpmedmicaaDoorUC
import Derived.Lib.ItoaMem
import Derived.Lib.ItoaLen
set_option linter.unusedSimpArgs false
set_option linter.unusedVariables false
set_option linter.unusedSimpArgs false
set_option linter.unusedVariables false
namespace Go.Proofs.YtipdmcpmedmicaaDoor
set_option maxRecDepth 100000

theorem drop_cons {s : List UInt8} {i : Nat} (h : i < s.length) : s.drop i = s[i] :: s.drop (i + 1) := List.drop_eq_getElem_cons h
theorem sub1 {s : List UInt8} {i : Nat} (h : i < s.length) : subI s (i : Int) ((i : Int) + 1) = some [s[i]] := by
  unfold subI
  rw [if_pos (by omega)]
  have : ((i : Int) + 1).toNat - (i : Int).toNat = 1 := by omega
  rw [this, Int.toNat_natCast, drop_cons h, List.take_succ_cons, List.take_zero]
def wB (b : UInt8) : Bool := decide (33 ≤ b.toNat) && decide (b.toNat ≤ 126) && (b.toNat != 34)
theorem subL_nat {s : List UInt8} {i : Nat} (h : i ≤ s.length) : subL s (i : Int) = some (s.drop i) := by
  unfold subL
  rw [if_pos (by omega), Int.toNat_natCast, List.take_of_length_le (by simp)]
theorem subI_nat {s : List UInt8} {i j : Nat} (h : i ≤ j) (hj : j ≤ s.length) : subI s (i : Int) (j : Int) = some ((s.drop i).take (j - i)) := by
  unfold subI
  rw [if_pos (by omega)]
  simp
theorem digit_eq (c : Int) : g_ref07_digit c = some (decide (48 ≤ c) && decide (c ≤ 57)) := by
  simp only [g_ref07_digit]; grind
def isDg (b : UInt8) : Bool := decide (48 ≤ b.toNat) && decide (b.toNat ≤ 57)
def numV (acc : Nat) (l : List UInt8) : Nat := l.foldl (fun a c => a * 10 + (c.toNat - 48)) acc
def numN (s : List UInt8) : Bool := s.head?.any (fun b => b.toNat == 45)
def numD (s : List UInt8) : List UInt8 := if numN s then s.drop 1 else s
def numBad (s : List UInt8) : Bool := match numD s with
  | [] => true
  | b :: t => (b.toNat == 48 && (decide (1 < (b :: t).length) || numN s)) || !((b :: t).all isDg)
def numVal (s : List UInt8) : Int := if numN s then -(numV 0 (numD s) : Int) else (numV 0 (numD s) : Int)
/-- What Number answers. -/
def numS (s : List UInt8) (lo hi : Int) : Int × Int := if numBad s then (0, 4) else if numVal s < -9223372036854775808 ∨ 9223372036854775807 < numVal s ∨ numVal s < lo ∨ hi < numVal s then (0, 2) else (numVal s, 0)
theorem numV_cons (acc : Nat) (c : UInt8) (r : List UInt8) : numV acc (c :: r) = numV (acc * 10 + (c.toNat - 48)) r := by unfold numV; rw [List.foldl_cons]
theorem numV_ge (l : List UInt8) : ∀ (acc : Nat), acc * 10 ^ l.length ≤ numV acc l := by
  induction l with
  | nil => intro acc; unfold numV; simp
  | cons c r ih =>
    intro acc
    rw [numV_cons, List.length_cons, Nat.pow_succ, Nat.mul_comm (10 ^ r.length) 10, ← Nat.mul_assoc]
    exact Nat.le_trans (Nat.mul_le_mul_right _ (Nat.le_add_right _ _)) (ih _)
theorem numV_le (l : List UInt8) : ∀ (acc : Nat), (∀ b ∈ l, isDg b = true) → numV acc l < (acc + 1) * 10 ^ l.length := by
  induction l with
  | nil => intro acc _; unfold numV; simp
  | cons c r ih =>
    intro acc h
    have hc := h c (by simp)
    simp only [isDg, Bool.and_eq_true, decide_eq_true_eq] at hc
    rw [numV_cons, List.length_cons, Nat.pow_succ, Nat.mul_comm (10 ^ r.length) 10, ← Nat.mul_assoc]
    exact Nat.lt_of_lt_of_le (ih _ (fun b hb => h b (by simp [hb]))) (Nat.mul_le_mul_right _ (by omega))
theorem parseM (l : List UInt8) : ∀ (acc : Nat), (∀ b ∈ l, isDg b = true) → acc ≤ 18446744073709551615 → Lib.parseUintM 18446744073709551615 acc l = if numV acc l ≤ 18446744073709551615 then .ok (numV acc l) else .range := by
  induction l with
  | nil => intro acc _ h; simp [Lib.parseUintM, numV, h]
  | cons c r ih =>
    intro acc hd h
    have hc := hd c (by simp)
    simp only [isDg, Bool.and_eq_true, decide_eq_true_eq] at hc
    have hge := numV_ge r (acc * 10 + (c.toNat - 48))
    have hp : 1 ≤ 10 ^ r.length := Nat.one_le_pow _ _ (by omega)
    have hge2 : acc * 10 + (c.toNat - 48) ≤ numV (acc * 10 + (c.toNat - 48)) r := Nat.le_trans (Nat.le_mul_of_pos_right _ hp) hge
    rw [numV_cons, Lib.parseUintM, if_pos hc]
    by_cases h1 : 1844674407370955162 ≤ acc
    · rw [if_pos h1, if_neg (by omega)]
    · rw [if_neg h1]
      by_cases h2 : 18446744073709551615 < acc * 10 + (c.toNat - 48)
      · rw [if_pos h2, if_neg (by omega)]
      · rw [if_neg h2]
        exact ih _ (fun b hb => hd b (by simp [hb])) (by omega)
theorem u8_45 (b : UInt8) : (b == 45) = (b.toNat == 45) := by
  rw [Bool.eq_iff_iff]
  simp only [beq_iff_eq]
  exact ⟨fun h => by rw [h]; rfl, fun h => UInt8.toNat_inj.1 h⟩
theorem cut_eq (s : List UInt8) : g_strings_CutPrefix s [45] = some (numD s, numN s) := by
  simp only [g_strings_CutPrefix, Lib.trimPrefix, Lib.hasPrefix, numD, numN]
  cases s with
  | nil => rfl
  | cons b t =>
    have : ([45] : List UInt8).isPrefixOf (b :: t) = (b.toNat == 45) := by
      simp only [List.isPrefixOf, Bool.and_true]
      rw [← u8_45]
      rw [Bool.eq_iff_iff]; simp only [beq_iff_eq]; exact eq_comm
    simp only [this, List.head?_cons, Option.any_some, List.length_cons, List.length_nil, Nat.zero_add]
    first | done | rfl
theorem digs_loop (d : List UInt8) (hd : d.length ≤ 9223372036854775806) (b : Bool) : ∃ e, iter (g_lines_Number_s1 (d, b)) 0 = some e ∧ (e = .inr () ↔ d.all isDg = true) := by
  have := iter_cnt (step := g_lines_Number_s1 (d, b)) d.length (by omega) (fun n => ∀ i (h : i < d.length), i < n → isDg d[i] = true) (fun e => (e = .inr () ↔ ∀ i (h : i < d.length), isDg d[i] = true)) (by intro i _ h; omega) ?_ ?_
  · obtain ⟨e, he, h⟩ := this
    refine ⟨e, he, h.trans ?_⟩
    rw [List.all_eq_true]
    exact ⟨fun h x hx => by obtain ⟨i, hi, rfl⟩ := List.getElem_of_mem hx; exact h i hi, fun h i hi => h _ (List.getElem_mem hi)⟩
  · intro i hi hI
    have hw := wrap_i64 ((i : Int) + 1) (by omega) (by omega)
    have hcnd : decide ((i : Int) < (d.length : Int)) = true := by simpa using hi
    simp only [g_lines_Number_s1, hcnd, if_true, atI_nat hi, Option.bind_some, hw]
    by_cases h1 : d[i].toNat < 48
    · right
      refine ⟨.inl (), by have : decide ((d[i].toNat : Int) < 48) = true := by simp; omega
                          simp [this], ?_⟩
      simp only [reduceCtorEq, false_iff]
      intro h; have := h i hi; simp only [isDg, Bool.and_eq_true, decide_eq_true_eq] at this; omega
    · have e1 : decide ((d[i].toNat : Int) < 48) = false := by simp; omega
      by_cases h2 : 57 < d[i].toNat
      · right
        refine ⟨.inl (), by have : decide (57 < (d[i].toNat : Int)) = true := by simp; omega
                            simp [e1, this], ?_⟩
        simp only [reduceCtorEq, false_iff]
        intro h; have := h i hi; simp only [isDg, Bool.and_eq_true, decide_eq_true_eq] at this; omega
      · left
        have e2 : decide (57 < (d[i].toNat : Int)) = false := by simp; omega
        refine ⟨by simp [e1, e2], fun j hj hlt => ?_⟩
        by_cases hji : j = i
        · subst hji; simp only [isDg, Bool.and_eq_true, decide_eq_true_eq]; omega
        · exact hI j hj (by omega)
  · intro hI
    refine ⟨.inr (), by simp [g_lines_Number_s1], ?_⟩
    simp only [true_iff]
    exact fun i h => hI i h h
theorem parse_eq (s : List UInt8) (h : numBad s = false) : Lib.parseIntB 64 s = if numVal s < -9223372036854775808 ∨ 9223372036854775807 < numVal s then .range else .ok (numVal s) := by
  have hD : ∃ b t, numD s = b :: t ∧ (b :: t).all isDg = true := by
    unfold numBad at h
    cases hd : numD s with
    | nil => rw [hd] at h; simp at h
    | cons b t => rw [hd] at h; simp only [Bool.or_eq_false_iff, Bool.not_eq_false'] at h; exact ⟨b, t, rfl, h.2⟩
  obtain ⟨b, t, hd, ha⟩ := hD
  have hall : ∀ x ∈ numD s, isDg x = true := by rw [hd]; exact List.all_eq_true.1 ha
  have hb := hall b (by rw [hd]; simp)
  simp only [isDg, Bool.and_eq_true, decide_eq_true_eq] at hb
  have hpu : Lib.parseUintB 64 (numD s) = if numV 0 (numD s) ≤ 18446744073709551615 then .ok (numV 0 (numD s)) else .range := by
    unfold Lib.parseUintB
    rw [if_neg (by rw [hd]; simp)]
    exact parseM _ 0 hall (by omega)
  cases s with
  | nil => simp [numD, numN] at hd
  | cons c r =>
    unfold Lib.parseIntB
    have hN : numN (c :: r) = (c.toNat == 45) := rfl
    by_cases h45 : c.toNat = 45
    · have hn : numN (c :: r) = true := by rw [hN]; simp [h45]
      have hD2 : numD (c :: r) = r := by simp [numD, hn]
      have hv : numVal (c :: r) = -(numV 0 r : Int) := by simp [numVal, hn, hD2]
      rw [hD2] at hpu
      simp only [h45, or_true, if_true, hpu, hv, not_true_eq_false, false_and, if_false, true_and]
      by_cases h1 : numV 0 r ≤ 18446744073709551615
      · rw [if_pos h1]
        simp only
        by_cases h2 : 2 ^ (64 - 1) < numV 0 r
        · rw [if_pos h2, if_pos (by left; simp at h2; omega)]
        · rw [if_neg h2, if_neg (by simp at h2; omega)]
      · rw [if_neg h1, if_pos (by left; omega)]
    · have hn : numN (c :: r) = false := by rw [hN]; simp [h45]
      have hD2 : numD (c :: r) = c :: r := by simp [numD, hn]
      have hv : numVal (c :: r) = (numV 0 (c :: r) : Int) := by simp [numVal, hn, hD2]
      have hcb : c = b := by rw [hD2] at hd; injection hd
      subst hcb
      have h43 : ¬ (c.toNat = 43 ∨ c.toNat = 45) := by omega
      rw [hD2] at hpu
      dsimp only
      rw [if_neg h43]
      simp only [hpu, hv, h45, not_false_eq_true, true_and, false_and, if_false]
      by_cases h1 : numV 0 (c :: r) ≤ 18446744073709551615
      · rw [if_pos h1]
        simp only
        by_cases h2 : 2 ^ (64 - 1) ≤ numV 0 (c :: r)
        · rw [if_pos h2, if_pos (by right; simp at h2; omega)]
        · rw [if_neg h2, if_neg (by simp at h2; omega)]
      · rw [if_neg h1, if_pos (by right; omega)]
theorem lines_Number_eq (s : List UInt8) (lo hi : Int) (hs : s.length ≤ 281474976710656) : g_lines_Number s lo hi = some (numS s lo hi) := by
  have hDl : (numD s).length ≤ s.length := by unfold numD; split <;> simp
  obtain ⟨e, he, hiff⟩ := digs_loop (numD s) (by omega) (numN s)
  simp only [g_lines_Number, cut_eq, Option.bind_some, he]
  unfold numS
  cases hbad : numBad s with
  | true =>
    simp only [if_true]
    unfold numBad at hbad
    cases hd : numD s with
    | nil => simp
    | cons b t =>
      rw [hd] at hbad hiff
      have e0 : ((b :: t) == ([] : List UInt8)) = false := rfl
      have e1 : atI (b :: t) 0 = some b := rfl
      simp only [e0, Bool.false_eq_true, if_false, e1, Option.bind_some]
      by_cases c48 : b.toNat = 48
      · have e2 : ((b.toNat : Int) == 48) = true := by simp [c48]
        simp only [e2, if_true]
        by_cases c1 : 1 < (b :: t).length
        · have e3 : decide (1 < ((b :: t).length : Int)) = true := by simp only [decide_eq_true_eq]; omega
          simp only [e3, if_true, Option.bind_some]
        · have e3 : decide (1 < ((b :: t).length : Int)) = false := by simp only [decide_eq_false_iff_not]; omega
          cases hn : numN s with
          | true => simp only [e3, Bool.false_eq_true, if_false, Option.bind_some, if_true]
          | false =>
            simp only [e3, Bool.false_eq_true, if_false, Option.bind_some]
            have : ¬ e = .inr () := by
              rw [hiff]
              simp only [hn, c48, c1, decide_false, Bool.or_false, Bool.and_false, Bool.false_or, Bool.not_eq_true'] at hbad
              rw [hbad]; simp
            rcases e with e | e
            · simp
            · exact absurd rfl this
      · have e2 : ((b.toNat : Int) == 48) = false := by simp; omega
        have e3 : (b.toNat == 48) = false := by simpa using c48
        simp only [e2, Bool.false_eq_true, if_false, Option.bind_some]
        have : ¬ e = .inr () := by
          rw [hiff]
          simp only [e3, Bool.false_and, Bool.false_or, Bool.not_eq_true'] at hbad
          rw [hbad]; simp
        rcases e with e | e
        · simp
        · exact absurd rfl this
  | false =>
    have hp := parse_eq s hbad
    simp only [Bool.false_eq_true, if_false]
    unfold numBad at hbad
    cases hd : numD s with
    | nil => rw [hd] at hbad; simp at hbad
    | cons b t =>
      rw [hd] at hbad hiff
      simp only [Bool.or_eq_false_iff, Bool.not_eq_false'] at hbad
      have e0 : ((b :: t) == ([] : List UInt8)) = false := rfl
      have e1 : atI (b :: t) 0 = some b := rfl
      have hv : ((if (b :: t == ([] : List UInt8)) = true then some true
          else (atI (b :: t) 0).bind fun b18 => if ((b18.toNat : Int) == 48) = true then if decide (1 < ((b :: t).length : Int)) = true then some true else some (numN s) else some false) : Option Bool) = some false := by
        simp only [e0, Bool.false_eq_true, if_false, e1, Option.bind_some]
        by_cases c48 : b.toNat = 48
        · have e2 : ((b.toNat : Int) == 48) = true := by simp [c48]
          have := hbad.1
          simp only [c48, beq_self_eq_true, Bool.true_and, Bool.or_eq_false_iff, decide_eq_false_iff_not] at this
          have e3 : decide (1 < ((b :: t).length : Int)) = false := by simp only [decide_eq_false_iff_not]; omega
          simp only [e2, e3, if_true, Bool.false_eq_true, if_false, this.2]
        · have e2 : ((b.toNat : Int) == 48) = false := by simp; omega
          simp [e2]
      have hee : e = .inr () := hiff.2 hbad.2
      subst hee
      rw [hd] at *
      simp only [hv, Option.bind_some, Bool.false_eq_true, if_false, g_strconv_ParseInt, true_and, if_pos hs, hp]
      by_cases hr : numVal s < -9223372036854775808 ∨ 9223372036854775807 < numVal s
      · simp only [if_pos hr, Option.bind_some, if_true]
        rw [if_pos (by omega)]
      · have cd : numVal s < -9223372036854775808 ∨ 9223372036854775807 < numVal s ∨ numVal s < lo ∨ hi < numVal s ↔ numVal s < lo ∨ hi < numVal s := by omega
        simp only [if_neg hr, Option.bind_some, Bool.false_eq_true, if_false, cd]
        by_cases h1 : numVal s < lo
        · simp only [h1, decide_true, if_true, Option.bind_some, true_or]
        · by_cases h2 : hi < numVal s
          · simp only [h1, h2, decide_false, decide_true, Bool.false_eq_true, if_false, if_true, Option.bind_some, or_true]
          · simp only [h1, h2, decide_false, Bool.false_eq_true, if_false, Option.bind_some, or_self]
theorem wrap_u64 (x : Int) (h : 0 ≤ x) (h' : x ≤ 18446744073709551615) : IntKind.u64.wrap x = x := by
  simp [IntKind.wrap, IntKind.bits, IntKind.signed]
  omega
theorem digit_dg (b : UInt8) : g_ref07_digit (b.toNat : Int) = some (isDg b) := by
  have h1 : decide (48 ≤ (b.toNat : Int)) = decide (48 ≤ b.toNat) := by simp only [decide_eq_decide]; omega
  have h2 : decide ((b.toNat : Int) ≤ 57) = decide (b.toNat ≤ 57) := by simp only [decide_eq_decide]; omega
  rw [digit_eq, h1, h2]; rfl
theorem rdigs_loop (d : List UInt8) (hd : d.length ≤ 9223372036854775806) : ∃ e, iter (g_ref07_Number_s1 d) 0 = some e ∧ (e = .inr () ↔ d.all isDg = true) := by
  have := iter_cnt (step := g_ref07_Number_s1 d) d.length (by omega) (fun n => ∀ i (h : i < d.length), i < n → isDg d[i] = true) (fun e => (e = .inr () ↔ ∀ i (h : i < d.length), isDg d[i] = true)) (by intro i _ h; omega) ?_ ?_
  · obtain ⟨e, he, h⟩ := this
    refine ⟨e, he, h.trans ?_⟩
    rw [List.all_eq_true]
    exact ⟨fun h x hx => by obtain ⟨i, hi, rfl⟩ := List.getElem_of_mem hx; exact h i hi, fun h i hi => h _ (List.getElem_mem hi)⟩
  · intro i hi hI
    have hw := wrap_i64 ((i : Int) + 1) (by omega) (by omega)
    have hcnd : decide ((i : Int) < (d.length : Int)) = true := by simpa using hi
    simp only [g_ref07_Number_s1, hcnd, if_true, atI_nat hi, Option.bind_some, hw, digit_dg]
    cases hdg : isDg d[i] with
    | false =>
      right
      refine ⟨.inl (), by simp, ?_⟩
      simp only [reduceCtorEq, false_iff]
      intro h; have := h i hi; rw [hdg] at this; cases this
    | true =>
      left
      refine ⟨by simp, fun j hj hlt => ?_⟩
      by_cases hji : j = i
      · subst hji; exact hdg
      · exact hI j hj (by omega)
  · intro hI
    refine ⟨.inr (), by simp [g_ref07_Number_s1], ?_⟩
    simp only [true_iff]
    exact fun i h => hI i h h
theorem racc_loop (d : List UInt8) (hall : ∀ b ∈ d, isDg b = true) (hl : d.length ≤ 19) : iter (g_ref07_Number_s2 d) (0, 0) = some (numV 0 d : Int) := by
  refine iter_of (fun x e => ∃ (i a : Nat), x.2 = (i : Int) ∧ i ≤ d.length ∧ x.1 = (a : Int) ∧ a < 10 ^ i ∧ numV a (d.drop i) = numV 0 d ∧ e = (numV 0 d : Int)) (fun x => d.length - x.2.toNat) ?_ (x := (0, 0)) ⟨0, 0, rfl, by omega, rfl, by simp, by simp, rfl⟩ (by show d.length - _ < _; omega)
  rintro ⟨u, z⟩ e ⟨i, a, hz, hi, hu, ha, hv, rfl⟩
  simp only at hz hu ⊢
  subst hz hu
  by_cases h : i < d.length
  · left
    have hb := hall d[i] (List.getElem_mem h)
    simp only [isDg, Bool.and_eq_true, decide_eq_true_eq] at hb
    have hp : 10 ^ i ≤ 10 ^ 18 := Nat.pow_le_pow_right (by omega) (by omega)
    have ha2 : a < 1000000000000000000 := Nat.lt_of_lt_of_le ha hp
    have w1 := wrap_i64 ((i : Int) + 1) (by omega) (by omega)
    have w2 := wrap_u64 (10 * (a : Int)) (by omega) (by omega)
    have w3 : IntKind.u8.wrap ((d[i].toNat : Int) - 48) = (d[i].toNat : Int) - 48 := wr8 (by omega)
    have w4 := wrap_u64 ((d[i].toNat : Int) - 48) (by omega) (by omega)
    have w5 := wrap_u64 (10 * (a : Int) + ((d[i].toNat : Int) - 48)) (by omega) (by omega)
    have hcnd : decide ((i : Int) < (d.length : Int)) = true := by simpa using h
    refine ⟨(10 * (a : Int) + ((d[i].toNat : Int) - 48), (i : Int) + 1), ?_, ⟨i + 1, a * 10 + (d[i].toNat - 48), by simp, by omega, by simp only; omega, ?_, ?_, by simp⟩, by simp; omega⟩
    · simp only [g_ref07_Number_s2, hcnd, if_true, atI_nat h, Option.bind_some, w1, w2, w3, w4, w5]
    · rw [Nat.pow_succ]; omega
    · rw [← hv, drop_cons h, numV_cons]
  · right
    obtain rfl : i = d.length := by omega
    rw [List.drop_length] at hv
    have hv : a = numV 0 d := hv
    subst hv
    simp [g_ref07_Number_s2]
theorem numV_big (b : UInt8) (t : List UInt8) (hb : b.toNat ≠ 48) (hd : isDg b = true) (hl : 19 < (b :: t).length) : 9223372036854775808 < numV 0 (b :: t) := by
  simp only [isDg, Bool.and_eq_true, decide_eq_true_eq] at hd
  have := numV_ge t (0 * 10 + (b.toNat - 48))
  rw [numV_cons]
  have hp : 10 ^ 19 ≤ 10 ^ t.length := Nat.pow_le_pow_right (by omega) (by simp at hl; omega)
  have h1 : 1 * 10 ^ t.length ≤ (0 * 10 + (b.toNat - 48)) * 10 ^ t.length := Nat.mul_le_mul_right _ (by omega)
  omega
def dBad (neg : Bool) : List UInt8 → Bool
  | [] => true
  | b :: t => b.toNat == 48 && (decide (1 < (b :: t).length) || neg)
theorem ref_tail (d : List UInt8) (neg : Bool) :
    (((if ((d.length : Int) == 0) = true then (some true) else ((atI d 0).bind fun b33 => (if ((b33.toNat : Int) == 48) = true then (if decide (1 < (d.length : Int)) = true then (some true) else (some neg)) else (some false)))) : Option Bool)) = some (dBad neg d) := by
  cases d with
  | nil => rfl
  | cons b t =>
    have e0 : (((b :: t).length : Int) == 0) = false := by simp; omega
    have e1 : atI (b :: t) 0 = some b := rfl
    simp only [e0, Bool.false_eq_true, if_false, e1, Option.bind_some, dBad]
    have e2 : ((b.toNat : Int) == 48) = (b.toNat == 48) := by rw [Bool.eq_iff_iff]; simp; omega
    have e3 : decide (1 < ((b :: t).length : Int)) = decide (1 < (b :: t).length) := by simp only [decide_eq_decide]; omega
    rw [e2, e3]
    cases (b.toNat == 48) <;> cases decide (1 < (b :: t).length) <;> rfl
theorem numBad_eq (s : List UInt8) : numBad s = (dBad (numN s) (numD s) || !((numD s).all isDg)) := by
  unfold numBad dBad
  cases numD s <;> rfl
theorem dBad_false {neg : Bool} {d : List UInt8} (h : dBad neg d = false) : ∃ b t, d = b :: t ∧ (b.toNat = 48 → d.length ≤ 1 ∧ neg = false) := by
  cases d with
  | nil => cases h
  | cons b t =>
    refine ⟨b, t, rfl, fun h48 => ?_⟩
    simp only [dBad, h48, beq_self_eq_true, Bool.true_and, Bool.or_eq_false_iff, decide_eq_false_iff_not] at h
    exact ⟨by omega, h.2⟩
theorem ref_Number_eq (s : List UInt8) (lo hi : Int) (hs : s.length ≤ 9223372036854775806) : g_ref07_Number s lo hi = some (numS s lo hi) := by
  have hv9 : (((if (decide (0 < (s.length : Int))) then ((atI s 0).bind fun b12 => (some ((b12.toNat : Int) == 45))) else (some false)) : Option (Bool))) = some (numN s) := by
    cases s with
    | nil => rfl
    | cons b t =>
      have e0 : decide (0 < ((b :: t).length : Int)) = true := by simp only [decide_eq_true_eq, List.length_cons]; omega
      have e1 : atI (b :: t) 0 = some b := rfl
      have e2 : ((b.toNat : Int) == 45) = (b.toNat == 45) := by rw [Bool.eq_iff_iff]; simp; omega
      simp only [e0, if_true, e1, Option.bind_some, e2]; rfl
  have hDl : (numD s).length ≤ s.length := by unfold numD; split <;> simp
  obtain ⟨e, he, hiff⟩ := rdigs_loop (numD s) (by omega)
  have he3 : iter (g_ref07_Number_s3 (numD s)) 0 = some e := he
  have htail := ref_tail (numD s) (numN s)
  have hacc := racc_loop (numD s)
  have hacc4 : (∀ b ∈ numD s, isDg b = true) → (numD s).length ≤ 19 → iter (g_ref07_Number_s4 (numD s)) (0, 0) = some (numV 0 (numD s) : Int) := racc_loop (numD s)
  have hbad := numBad_eq s
  simp only [g_ref07_Number, hv9, Option.bind_some]
  unfold numS numVal
  cases hn : numN s with
  | true =>
    have hD : numD s = s.drop 1 := by simp [numD, hn]
    have hl1 : 1 ≤ s.length := by cases s with | nil => simp [numN] at hn | cons b t => simp
    have hsub : subL s 1 = some (numD s) := by rw [hD]; exact subL_nat (i := 1) hl1
    rw [hn] at htail hbad
    simp only [if_true, hsub, Option.bind_some, htail, he, hbad]
    generalize numD s = d at *
    cases hc : dBad true d with
    | true => simp
    | false =>
      obtain ⟨b, t, rfl, h48⟩ := dBad_false hc
      have hb48 : b.toNat ≠ 48 := fun h => by have := (h48 h).2; cases this
      simp only [Bool.false_or, Bool.false_eq_true, if_false]
      cases hall : (b :: t).all isDg with
      | false =>
        have : ¬ e = .inr () := by rw [hiff, hall]; simp
        rcases e with e | e
        · simp
        · exact absurd rfl this
      | true =>
        obtain rfl := hiff.2 hall
        have hal := List.all_eq_true.1 hall
        simp only [Bool.not_true, Bool.false_eq_true, if_false]
        by_cases hbig : 19 < (b :: t).length
        · have e4 : decide (19 < ((b :: t).length : Int)) = true := by simp only [decide_eq_true_eq]; omega
          have := numV_big b t hb48 (hal b (by simp)) hbig
          simp only [e4, if_true]
          rw [if_pos (by omega)]
        · have e4 : decide (19 < ((b :: t).length : Int)) = false := by simp only [decide_eq_false_iff_not]; omega
          have hle := numV_le (b :: t) 0 hal
          have hp : 10 ^ (b :: t).length ≤ 10 ^ 19 := Nat.pow_le_pow_right (by omega) (by omega)
          simp only [e4, Bool.false_eq_true, if_false, hacc hal (by omega), Option.bind_some]
          generalize numV 0 (b :: t) = v at *
          by_cases h1 : 9223372036854775808 < v
          · have e5 : decide (9223372036854775808 < (v : Int)) = true := by simp only [decide_eq_true_eq]; omega
            simp only [e5, if_true, Option.bind_some]
            rw [if_pos (by omega)]
          · have e5 : decide (9223372036854775808 < (v : Int)) = false := by simp only [decide_eq_false_iff_not]; omega
            have hw : IntKind.i64.wrap (0 - IntKind.i64.wrap (v : Int)) = -(v : Int) := by
              by_cases h2 : v = 9223372036854775808
              · subst h2; rfl
              · rw [wrap_i64 (v : Int) (by omega) (by omega), wrap_i64 (0 - (v : Int)) (by omega) (by omega)]; omega
            simp only [e5, Bool.false_eq_true, if_false, Option.bind_some, hw]
            have cd : -(v : Int) < -9223372036854775808 ∨ 9223372036854775807 < -(v : Int) ∨ -(v : Int) < lo ∨ hi < -(v : Int) ↔ -(v : Int) < lo ∨ hi < -(v : Int) := by omega
            simp only [cd]
            by_cases h3 : -(v : Int) < lo
            · simp only [h3, decide_true, if_true, true_or]
            · by_cases h4 : hi < -(v : Int)
              · simp only [h3, h4, decide_false, decide_true, Bool.false_eq_true, if_false, if_true, or_true]
              · simp only [h3, h4, decide_false, Bool.false_eq_true, if_false, or_self]
  | false =>
    have hD : numD s = s := by simp [numD, hn]
    rw [hn] at htail hbad
    rw [hD] at he3 hacc4 hiff htail hbad
    simp only [Bool.false_eq_true, if_false, htail, Option.bind_some, he3, hD, hbad]
    clear hv9 he hacc hDl hbad htail hD hn
    cases hc : dBad false s with
    | true => simp
    | false =>
      obtain ⟨b, t, rfl, h48⟩ := dBad_false hc
      simp only [Bool.false_or, Bool.false_eq_true, if_false]
      cases hall : (b :: t).all isDg with
      | false =>
        have : ¬ e = .inr () := by rw [hiff, hall]; simp
        rcases e with e | e
        · simp
        · exact absurd rfl this
      | true =>
        obtain rfl := hiff.2 hall
        have hal := List.all_eq_true.1 hall
        simp only [Bool.not_true, Bool.false_eq_true, if_false]
        by_cases hbig : 19 < (b :: t).length
        · have hb48 : b.toNat ≠ 48 := fun h => by have := (h48 h).1; omega
          have e4 : decide (19 < ((b :: t).length : Int)) = true := by simp only [decide_eq_true_eq]; omega
          have := numV_big b t hb48 (hal b (by simp)) hbig
          simp only [e4, if_true]
          rw [if_pos (by omega)]
        · have e4 : decide (19 < ((b :: t).length : Int)) = false := by simp only [decide_eq_false_iff_not]; omega
          have hle := numV_le (b :: t) 0 hal
          have hp : 10 ^ (b :: t).length ≤ 10 ^ 19 := Nat.pow_le_pow_right (by omega) (by omega)
          simp only [e4, Bool.false_eq_true, if_false, hacc4 hal (by omega), Option.bind_some]
          generalize numV 0 (b :: t) = v at *
          by_cases h1 : 9223372036854775808 < v
          · have e5 : decide (9223372036854775808 < (v : Int)) = true := by simp only [decide_eq_true_eq]; omega
            simp only [e5, if_true, Option.bind_some]
            rw [if_pos (by omega)]
          · have e5 : decide (9223372036854775808 < (v : Int)) = false := by simp only [decide_eq_false_iff_not]; omega
            by_cases h2 : v = 9223372036854775808
            · have e6 : ((v : Int) == 9223372036854775808) = true := by simp; omega
              simp only [e5, e6, Bool.false_eq_true, if_false, if_true, Option.bind_some]
              rw [if_pos (by omega)]
            · have e6 : ((v : Int) == 9223372036854775808) = false := by simp; omega
              have hw : IntKind.i64.wrap (v : Int) = v := wrap_i64 (v : Int) (by omega) (by omega)
              simp only [e5, e6, Bool.false_eq_true, if_false, Option.bind_some, hw]
              have cd : (v : Int) < -9223372036854775808 ∨ 9223372036854775807 < (v : Int) ∨ (v : Int) < lo ∨ hi < (v : Int) ↔ (v : Int) < lo ∨ hi < (v : Int) := by omega
              simp only [cd]
              by_cases h3 : (v : Int) < lo
              · simp only [h3, decide_true, if_true, true_or]
              · by_cases h4 : hi < (v : Int)
                · simp only [h3, h4, decide_false, decide_true, Bool.false_eq_true, if_false, if_true, or_true]
                · simp only [h3, h4, decide_false, Bool.false_eq_true, if_false, or_self]
theorem decDigits_len (u : Nat) (hu : u ≤ 18446744073709551615) : (Lib.decDigits u).length ≤ 20 := by
  rw [Lib.decDigits_length]; exact Lib.nDigits_le20 u (by omega)
/-- Decimals. -/
theorem dig_sub (u : Nat) (h : u < 10) : subI ([48, 49, 50, 51, 52, 53, 54, 55, 56, 57] : List UInt8) (u : Int) ((u : Int) + 1) = some [UInt8.ofNat (48 + u)] := by
  have := sub1 (s := ([48, 49, 50, 51, 52, 53, 54, 55, 56, 57] : List UInt8)) (i := u) (by simpa using h)
  rw [this]
  congr 2
  have key : ∀ v : Fin 10, ([48, 49, 50, 51, 52, 53, 54, 55, 56, 57] : List UInt8)[v.val] = UInt8.ofNat (48 + v.val) := by decide
  exact key ⟨u, h⟩
theorem dec_loop (u : Nat) (hu : u ≤ 18446744073709551615) : ∃ (v : Nat) (t : List UInt8), iter g_ref07_Decimal_s1 ((u : Int), []) = some ((v : Int), t) ∧ v < 10 ∧ t.length ≤ 30 ∧ UInt8.ofNat (48 + v) :: t = Lib.decDigits u := by
  have := iter_post (step := g_ref07_Decimal_s1) (fun x => ∃ (v : Nat), x.1 = (v : Int) ∧ v ≤ u ∧ v * 10 ^ x.2.length ≤ u ∧ Lib.decDigits v ++ x.2 = Lib.decDigits u) (fun x => x.1.toNat)
    (fun e => ∃ (v : Nat) (t : List UInt8), e = ((v : Int), t) ∧ v < 10 ∧ t.length ≤ 30 ∧ UInt8.ofNat (48 + v) :: t = Lib.decDigits u) (x := ((u : Int), [])) ⟨u, rfl, Nat.le_refl _, by simp, by simp⟩ (by show (u : Int).toNat < _; omega) ?_
  · obtain ⟨e, he, v, t, rfl, h⟩ := this
    exact ⟨v, t, he, h⟩
  · rintro ⟨z, t⟩ ⟨v, hz, hvu, hpow, happ⟩
    simp only at hz hpow happ ⊢
    subst hz
    have ht : 1 ≤ v → t.length ≤ 19 := by
      intro hv
      rcases Nat.lt_or_ge t.length 20 with h | h
      · omega
      · exfalso
        have hp : 10 ^ 20 ≤ 10 ^ t.length := Nat.pow_le_pow_right (by omega) h
        have : 1 * 10 ^ t.length ≤ v * 10 ^ t.length := Nat.mul_le_mul_right _ hv
        omega
    by_cases h10 : 10 ≤ v
    · left
      have e1 : decide (10 ≤ (v : Int)) = true := by simp only [decide_eq_true_eq]; omega
      have hm : Int.tmod (v : Int) 10 = ((v % 10 : Nat) : Int) := by rw [Int.tmod_eq_emod_of_nonneg (by omega)]; omega
      have hq : Int.tdiv (v : Int) 10 = ((v / 10 : Nat) : Int) := by rw [Int.tdiv_eq_ediv_of_nonneg (by omega)]; omega
      have w1 := wrap_u64 (((v % 10 : Nat) : Int) + 1) (by omega) (by omega)
      have w2 := wrap_u64 ((v / 10 : Nat) : Int) (by omega) (by omega)
      have htl := ht (by omega)
      refine ⟨(((v / 10 : Nat) : Int), [UInt8.ofNat (48 + v % 10)] ++ t), ?_, ⟨v / 10, rfl, by omega, ?_, ?_⟩, by simp only [Int.toNat_natCast]; omega⟩
      · simp only [g_ref07_Decimal_s1, e1, if_true, hm, hq, w1, w2, dig_sub (v % 10) (by omega), Option.bind_some]
        rw [if_pos (by simp; omega)]
      · simp only [List.length_append, List.length_cons, List.length_nil, Nat.zero_add, Nat.pow_add, Nat.pow_one]
        have : v / 10 * 10 ≤ v := Nat.div_mul_le_self v 10
        calc v / 10 * (10 * 10 ^ t.length) = (v / 10 * 10) * 10 ^ t.length := by rw [Nat.mul_assoc]
          _ ≤ v * 10 ^ t.length := Nat.mul_le_mul_right _ this
          _ ≤ u := hpow
      · rw [← happ, ← List.append_assoc]
        congr 1
        conv => rhs; rw [Lib.decDigits, dif_neg (by omega)]
    · right
      have e1 : decide (10 ≤ (v : Int)) = false := by simp only [decide_eq_false_iff_not]; omega
      refine ⟨((v : Int), t), by simp [g_ref07_Decimal_s1, e1], v, t, rfl, by omega, ?_, ?_⟩
      · rcases Nat.eq_zero_or_pos v with h0 | h0
        · subst h0
          have hl := congrArg List.length happ
          rw [List.length_append, Lib.decDigits_one (by omega)] at hl
          have hn := decDigits_len u (by omega)
          simp at hl; omega
        · have := ht h0; omega
      · rw [← happ, Lib.decDigits_one (by omega)]; rfl
theorem itoa_nat (u : Nat) : Lib.itoa (u : Int) = Lib.decDigits u := Lib.itoa_nonneg u
theorem ref_Decimal_eq (n : Int) (h0 : -9223372036854775808 ≤ n) (h1 : n ≤ 9223372036854775807) : g_ref07_Decimal n = some (Lib.itoa n) := by
  by_cases hn : n < 0
  · obtain ⟨u, rfl, hu⟩ : ∃ u : Nat, n = -(u : Int) ∧ 1 ≤ u := ⟨n.natAbs, by omega, by omega⟩
    have hw : IntKind.u64.wrap (0 - IntKind.u64.wrap (-(u : Int))) = (u : Int) := by
      simp [IntKind.wrap, IntKind.bits, IntKind.signed]
      omega
    obtain ⟨v, t, he, hv, ht, hd⟩ := dec_loop u (by omega)
    have w1 := wrap_u64 ((v : Int) + 1) (by omega) (by omega)
    have e1 : decide (-(u : Int) < 0) = true := by simp only [decide_eq_true_eq]; omega
    simp only [g_ref07_Decimal, e1, if_true, hw, he, Option.bind_some, w1, dig_sub v hv]
    rw [if_pos (by simp), if_pos (by simp; omega), Lib.itoa_neg u hu, ← hd]
    rfl
  · obtain ⟨u, rfl⟩ : ∃ u : Nat, n = (u : Int) := ⟨n.toNat, by omega⟩
    have hw := wrap_u64 (u : Int) (by omega) (by omega)
    obtain ⟨v, t, he, hv, ht, hd⟩ := dec_loop u (by omega)
    have he2 : iter g_ref07_Decimal_s2 ((u : Int), []) = some ((v : Int), t) := he
    have w1 := wrap_u64 ((v : Int) + 1) (by omega) (by omega)
    have e1 : decide ((u : Int) < 0) = false := by simp
    simp only [g_ref07_Decimal, e1, Bool.false_eq_true, if_false, hw, he2, Option.bind_some, w1, dig_sub v hv]
    rw [if_pos (by simp), if_pos (by simp; omega), Lib.itoa_nonneg u, ← hd]
    rfl
theorem numV_snoc (l : List UInt8) (acc : Nat) (b : UInt8) : numV acc (l ++ [b]) = numV acc l * 10 + (b.toNat - 48) := by
  unfold numV; rw [List.foldl_append]; rfl
theorem dgt (k : Nat) (h : k < 10) : (UInt8.ofNat (48 + k)).toNat = 48 + k := by
  have : ∀ v : Fin 10, (UInt8.ofNat (48 + v.val)).toNat = 48 + v.val := by decide
  exact this ⟨k, h⟩
theorem dec_facts (u : Nat) : numV 0 (Lib.decDigits u) = u ∧ (Lib.decDigits u).all isDg = true ∧ ∃ b t, Lib.decDigits u = b :: t ∧ (1 ≤ u → b.toNat ≠ 48) := by
  induction u using Nat.strongRecOn with
  | _ u ih =>
    by_cases h : u < 10
    · rw [Lib.decDigits_one h]
      refine ⟨by rw [numV_cons, dgt u h]; show 0 * 10 + (48 + u - 48) = u; omega, ?_, _, [], rfl, fun h1 => by rw [dgt u h]; omega⟩
      simp [isDg, dgt u h]; omega
    · obtain ⟨i1, i2, b, t, i3, i4⟩ := ih (u / 10) (by omega)
      rw [Lib.decDigits, dif_neg h]
      refine ⟨?_, ?_, b, t ++ [UInt8.ofNat (48 + u % 10)], by rw [i3]; rfl, fun _ => i4 (by omega)⟩
      · rw [numV_snoc, i1, dgt _ (by omega)]; omega
      · rw [List.all_append, i2]
        simp [isDg, dgt (u % 10) (by omega)]; omega
theorem numS_itoa (n : Int) (h0 : -9223372036854775808 ≤ n) (h1 : n ≤ 9223372036854775807) : numS (Lib.itoa n) n n = (n, 0) := by
  by_cases hn : n < 0
  · obtain ⟨u, rfl, hu⟩ : ∃ u : Nat, n = -(u : Int) ∧ 1 ≤ u := ⟨n.natAbs, by omega, by omega⟩
    rw [Lib.itoa_neg u hu]
    obtain ⟨d1, d2, b, t, d3, d4⟩ := dec_facts u
    have hN : numN (45 :: Lib.decDigits u) = true := rfl
    have hD : numD (45 :: Lib.decDigits u) = Lib.decDigits u := by simp [numD, hN]
    have hB : numBad (45 :: Lib.decDigits u) = false := by
      unfold numBad
      rw [hD, d3]
      rw [d3] at d2
      have : (b.toNat == 48) = false := by simpa using d4 hu
      simp only [this, Bool.false_and, Bool.false_or, d2, Bool.not_true]
    have hV : numVal (45 :: Lib.decDigits u) = -(u : Int) := by unfold numVal; rw [hN, hD, d1]; rfl
    unfold numS
    rw [hB, hV]
    simp only [Bool.false_eq_true, if_false]
    rw [if_neg (by omega)]
  · obtain ⟨u, rfl⟩ : ∃ u : Nat, n = (u : Int) := ⟨n.toNat, by omega⟩
    rw [Lib.itoa_nonneg u]
    obtain ⟨d1, d2, b, t, d3, d4⟩ := dec_facts u
    have hb := List.all_eq_true.1 d2 b (by rw [d3]; simp)
    simp only [isDg, Bool.and_eq_true, decide_eq_true_eq] at hb
    have hN : numN (Lib.decDigits u) = false := by
      rw [d3]; simp [numN]; omega
    have hD : numD (Lib.decDigits u) = Lib.decDigits u := by simp [numD, hN]
    have hB : numBad (Lib.decDigits u) = false := by
      unfold numBad
      rw [hD, hN]
      cases Nat.eq_zero_or_pos u with
      | inl hz => subst hz; decide +kernel
      | inr hp =>
        rw [d3]
        rw [d3] at d2
        have : (b.toNat == 48) = false := by simpa using d4 hp
        simp only [this, Bool.false_and, Bool.false_or, d2, Bool.not_true]
    have hV : numVal (Lib.decDigits u) = (u : Int) := by unfold numVal; rw [hN, hD, d1]; rfl
    unfold numS
    rw [hB, hV]
    simp only [Bool.false_eq_true, if_false]
    rw [if_neg (by omega)]
/-- The pieces between a byte. -/
def spB (c : UInt8) : List UInt8 → List (List UInt8)
  | [] => [[]]
  | b :: t => if b = c then [] :: spB c t else match spB c t with
    | [] => [[b]]
    | h :: r => (b :: h) :: r
theorem spB_ne (c : UInt8) (s : List UInt8) : spB c s ≠ [] := by
  cases s with
  | nil => simp [spB]
  | cons b t =>
    simp only [spB]
    split
    · simp
    · split <;> simp
theorem spB_no (c : UInt8) : ∀ (s : List UInt8), c ∉ s → spB c s = [s]
  | [], _ => rfl
  | b :: t, h => by
    have := spB_no c t (fun hx => h (List.mem_cons_of_mem _ hx))
    simp only [spB, this]
    rw [if_neg (fun e => h (by simp [e]))]
theorem spB_app (c : UInt8) : ∀ (x t : List UInt8), c ∉ x → spB c (x ++ c :: t) = x :: spB c t
  | [], t, _ => by simp [spB]
  | b :: x, t, h => by
    have ih := spB_app c x t (fun hx => h (List.mem_cons_of_mem _ hx))
    simp only [List.cons_append, spB, ih]
    rw [if_neg (fun e => h (by simp [e]))]
theorem spB_join (c : UInt8) : ∀ (ws : List (List UInt8)), ws ≠ [] → (∀ w ∈ ws, c ∉ w) → spB c (Lib.join ws [c]) = ws
  | [], h, _ => absurd rfl h
  | [w], _, h => by rw [Lib.join_one]; exact spB_no c w (h w (by simp))
  | w :: v :: ws, _, h => by
    have ih := spB_join c (v :: ws) (by simp) (fun x hx => h x (List.mem_cons_of_mem _ hx))
    rw [Lib.join_cons] at ih ⊢
    have e : Lib.joinTail [c] (v :: ws) = c :: (v ++ Lib.joinTail [c] ws) := by simp [Lib.joinTail]
    rw [e, spB_app c w _ (h w (by simp)), ih]
theorem join_spB (c : UInt8) : ∀ (s : List UInt8), Lib.join (spB c s) [c] = s
  | [] => by simp [spB, Lib.join_one]
  | b :: t => by
    have ih := join_spB c t
    simp only [spB]
    split
    · rename_i he
      subst he
      cases hsp : spB b t with
      | nil => exact absurd hsp (spB_ne b t)
      | cons h r =>
        rw [hsp, Lib.join_cons] at ih
        rw [Lib.join_cons]
        simp only [Lib.joinTail, List.map_cons, List.flatten_cons, List.nil_append, List.singleton_append, List.cons_append] at ih ⊢
        rw [ih]
    · cases hsp : spB c t with
      | nil => exact absurd hsp (spB_ne c t)
      | cons h r =>
        simp only
        rw [hsp, Lib.join_cons] at ih
        rw [Lib.join_cons, List.cons_append, ih]
theorem spB_hit (c : UInt8) : ∀ (i : Nat) (s : List UInt8) (hi : i < s.length), s[i] = c → (∀ (j : Nat) (hj : j < i), s[j] ≠ c) → spB c s = s.take i :: spB c (s.drop (i + 1))
  | 0, b :: t, _, h10, _ => by
    have : b = c := h10
    simp [spB, this]
  | i + 1, b :: t, hi, h10, hn => by
    have h0 : b ≠ c := hn 0 (by omega)
    have := spB_hit c i t (by simpa using hi) (by simpa using h10) (fun j hj => by have := hn (j + 1) (by omega); simpa using this)
    simp only [spB, if_neg h0, this]
    simp
  | 0, [], hi, _, _ => by simp at hi
  | _ + 1, [], hi, _, _ => by simp at hi
theorem split_eqB (c : UInt8) : ∀ (n : Nat) (s : List UInt8), s.length ≤ n → Lib.split s [c] = spB c s := by
  intro n
  induction n with
  | zero => intro s hs; have : s = [] := List.eq_nil_of_length_eq_zero (by omega); subst this; rfl
  | succ n ih =>
    intro s hs
    have hix := Lib.index_one s c
    by_cases hm : Lib.index s [c] = -1
    · have hno : c ∉ s := by
        intro hb
        obtain ⟨k, hk⟩ := List.getElem?_of_mem hb
        exact Lib.indexByte_none (by rw [← hix]; exact hm) k hk
      rw [spB_no c s hno]
      unfold Lib.split
      rw [Lib.count_miss hm]
      rfl
    · have hge := Lib.index_ge s [c]
      obtain ⟨i, hi⟩ : ∃ i : Nat, Lib.index s [c] = i := ⟨(Lib.index s [c]).toNat, by omega⟩
      obtain ⟨h1, h2⟩ := Lib.indexByte_some (by rw [← hix]; exact hi)
      obtain ⟨hlt, hget⟩ := List.getElem?_eq_some_iff.1 h1
      have hspl := spB_hit c i s hlt hget (fun j hj h10 => h2 j hj (by rw [List.getElem?_eq_getElem (by omega), h10]))
      rw [hspl]
      unfold Lib.split
      rw [Lib.count_hit (by simp) hi, Nat.add_comm]
      unfold Lib.splitK
      have hne : ¬ (Lib.index s [c] == -1) = true := by simp; omega
      rw [if_neg hne, hi]
      simp only [Int.toNat_natCast, Nat.add_zero, List.length_cons, List.length_nil, Nat.zero_add]
      congr 1
      exact ih (s.drop (i + 1)) (by simp; omega)
theorem Split_eq (s : List UInt8) (c : UInt8) (hs : s.length < 4294967281) : g_strings_Split s [c] = some (spB c s) := by
  unfold g_strings_Split
  rw [if_pos ⟨hs, by simp⟩, split_eqB c s.length s (Nat.le_refl _)]
/-- strings.Cut at a byte. -/
theorem Cut_eq (s : List UInt8) (c : UInt8) : Lib.cut s [c] = match spB c s with
    | [] => (s, [], false)
    | [w] => (w, [], false)
    | w :: v :: r => (w, Lib.join (v :: r) [c], true) := by
  have hix := Lib.index_one s c
  by_cases hm : Lib.index s [c] = -1
  · have hno : c ∉ s := by
      intro hb
      obtain ⟨k, hk⟩ := List.getElem?_of_mem hb
      exact Lib.indexByte_none (by rw [← hix]; exact hm) k hk
    rw [spB_no c s hno]
    unfold Lib.cut
    rw [if_neg (by omega)]
  · have hge := Lib.index_ge s [c]
    obtain ⟨i, hi⟩ : ∃ i : Nat, Lib.index s [c] = i := ⟨(Lib.index s [c]).toNat, by omega⟩
    obtain ⟨h1, h2⟩ := Lib.indexByte_some (by rw [← hix]; exact hi)
    obtain ⟨hlt, hget⟩ := List.getElem?_eq_some_iff.1 h1
    have hspl := spB_hit c i s hlt hget (fun j hj h10 => h2 j hj (by rw [List.getElem?_eq_getElem (by omega), h10]))
    rw [hspl]
    unfold Lib.cut
    rw [if_pos (by omega), hi]
    have hj := join_spB c (s.drop (i + 1))
    cases hsp : spB c (s.drop (i + 1)) with
    | nil => exact absurd hsp (spB_ne _ _)
    | cons v r =>
      rw [hsp] at hj
      simp only [Int.toNat_natCast, List.length_cons, List.length_nil, Nat.zero_add]
      rw [hj]
/-- A number that may stand there is read from its decimal. -/
theorem numS_in (n lo hi : Int) (h0 : -9223372036854775808 ≤ n) (h1 : n ≤ 9223372036854775807) (hl : lo ≤ n) (hh : n ≤ hi) : numS (Lib.itoa n) lo hi = (n, 0) := by
  have h := numS_itoa n h0 h1
  unfold numS at h ⊢
  by_cases hb : numBad (Lib.itoa n) = true
  · rw [if_pos hb] at h; simp at h
  · rw [if_neg hb] at h ⊢
    split at h
    · simp at h
    · rename_i hc
      have hv : numVal (Lib.itoa n) = n := by injection h
      rw [hv] at hc ⊢
      rw [if_neg (by omega)]
theorem iterN_chain {X E : Type} {step : X → Option (Nx X E)} {e : E} : ∀ (n : Nat) (x : Nat → X) (k : Nat), k < n → (∀ i, i < k → step (x i) = some (.go (x (i + 1)))) → step (x k) = some (.out e) → iterN step n (x 0) = some e
  | 0, _, _, h, _, _ => by omega
  | n + 1, x, 0, _, _, h2 => by simp only [iterN, h2]
  | n + 1, x, k + 1, h, h1, h2 => by
    simp only [iterN, h1 0 (by omega)]
    exact iterN_chain n (fun i => x (i + 1)) k (by omega) (fun i hi => h1 (i + 1) (by omega)) h2
theorem iter_chain {X E : Type} {step : X → Option (Nx X E)} {e : E} (x : Nat → X) (k : Nat) (hk : k < 73786976294838206464) (h1 : ∀ i, i < k → step (x i) = some (.go (x (i + 1)))) (h2 : step (x k) = some (.out e)) : iter step (x 0) = some e := iterN_chain _ x k hk h1 h2

theorem Decimal_eq (n : Int) : g_lines_Decimal n = some (Lib.itoa n) := by
  simp [g_lines_Decimal, g_strconv_FormatInt]
/-- A word of the text. -/
def plainW (w : List UInt8) : Prop := w ≠ [] ∧ (∀ b ∈ w, wB b = true) ∧ ∀ b ∈ w, b.toNat ≠ 35
theorem wB_facts {b : UInt8} (h : wB b = true) : 33 ≤ b.toNat ∧ b.toNat ≤ 126 ∧ b.toNat ≠ 34 := by
  simp [wB] at h; exact ⟨h.1.1, h.1.2, h.2⟩
theorem plain_no32 {w : List UInt8} (h : plainW w) : (32 : UInt8) ∉ w := fun hm => by have := (wB_facts (h.2.1 _ hm)).1; revert this; decide
theorem plain_no10 {w : List UInt8} (h : plainW w) : ∀ b ∈ w, b.toNat ≠ 10 := fun b hb => by have := (wB_facts (h.2.1 _ hb)).1; omega
theorem plain_itoa {n : Int} (h : 0 ≤ n) : plainW (Lib.itoa n) := by
  obtain ⟨u, rfl⟩ : ∃ u : Nat, n = u := ⟨n.toNat, by omega⟩
  rw [itoa_nat]
  obtain ⟨_, h2, b, t, h3, _⟩ := dec_facts u
  have hd : ∀ b ∈ Lib.decDigits u, 48 ≤ b.toNat ∧ b.toNat ≤ 57 := fun b hb => by
    have := List.all_eq_true.1 h2 b hb
    simpa [isDg] using this
  refine ⟨by rw [h3]; simp, fun b hb => ?_, fun b hb => ?_⟩
  · have := hd b hb; simp [wB]; omega
  · have := hd b hb; omega
theorem spB_le (c : UInt8) : ∀ (s : List UInt8), ∀ w ∈ spB c s, w.length ≤ s.length
  | [], w, h => by simp [spB] at h; subst h; simp
  | b :: t, w, h => by
    have ih := spB_le c t
    simp only [spB] at h
    split at h
    · rcases List.mem_cons.1 h with rfl | h
      · simp
      · have := ih w h; simp; omega
    · split at h
      · rename_i e; exact absurd e (spB_ne c t)
      · rename_i v r e
        rcases List.mem_cons.1 h with rfl | h
        · have := ih v (by rw [e]; simp); simp; omega
        · have := ih w (by rw [e]; simp [h]); simp; omega
/-- A decimal that is read is the one that is written. -/
theorem dec_canon : ∀ (n : Nat) (d : List UInt8), d.length = n → d ≠ [] → (∀ b ∈ d, isDg b = true) → (∀ b t, d = b :: t → b.toNat = 48 → t = []) → Lib.decDigits (numV 0 d) = d := by
  intro n
  induction n with
  | zero => intro d hl hne _ _; exact absurd (List.eq_nil_of_length_eq_zero hl) hne
  | succ n ih =>
    intro d hl hne hd hz
    obtain ⟨i, c, rfl⟩ : ∃ i c, d = i ++ [c] := ⟨d.dropLast, d.getLast hne, (List.dropLast_concat_getLast hne).symm⟩
    have hc : 48 ≤ c.toNat ∧ c.toNat ≤ 57 := by have := hd c (by simp); simpa [isDg] using this
    have hcb : UInt8.ofNat (48 + (c.toNat - 48)) = c := by rw [show 48 + (c.toNat - 48) = c.toNat by omega]; simp
    rw [numV_snoc]
    cases hi : i with
    | nil =>
      have : numV 0 [] = 0 := rfl
      rw [this, Nat.zero_mul, Nat.zero_add, Lib.decDigits_one (by omega), hcb]
      rfl
    | cons b t =>
      subst hi
      have hb : 48 ≤ b.toNat ∧ b.toNat ≤ 57 := by have := hd b (by simp); simpa [isDg] using this
      have hb48 : b.toNat ≠ 48 := fun h => by have := hz b (t ++ [c]) rfl h; simp at this
      have hge := numV_ge t (b.toNat - 48)
      have hpos : 1 ≤ numV 0 (b :: t) := by
        rw [numV_cons, Nat.zero_mul, Nat.zero_add]
        have h1 : 1 ≤ 10 ^ t.length := Nat.one_le_iff_ne_zero.2 (by simp)
        have h2 : 1 * 1 ≤ (b.toNat - 48) * 10 ^ t.length := Nat.mul_le_mul (by omega) h1
        omega
      have ih' := ih (b :: t) (by simp at hl ⊢; omega) (by simp) (fun x hx => hd x (by simp at hx ⊢; rcases hx with h | h <;> simp [h])) (fun b' t' he hb' => by injection he with h1 h2; subst h1; exact absurd hb' hb48)
      rw [Lib.decDigits, dif_neg (by omega)]
      have e1 : (numV 0 (b :: t) * 10 + (c.toNat - 48)) / 10 = numV 0 (b :: t) := by omega
      have e2 : (numV 0 (b :: t) * 10 + (c.toNat - 48)) % 10 = c.toNat - 48 := by omega
      rw [e1, e2, ih', hcb]
theorem numS_canon {s : List UInt8} {lo hi n : Int} (h : numS s lo hi = (n, 0)) : Lib.itoa n = s := by
  unfold numS at h
  by_cases hb : numBad s = true
  · rw [if_pos hb] at h; simp at h
  · rw [if_neg hb] at h
    split at h
    · simp at h
    · injection h with h _
      unfold numBad at hb
      cases hD : numD s with
      | nil => rw [hD] at hb; simp at hb
      | cons b t =>
        rw [hD] at hb
        simp only [Bool.or_eq_true, Bool.and_eq_true, beq_iff_eq, decide_eq_true_eq, Bool.not_eq_true', not_or, not_and, Bool.not_eq_false] at hb
        obtain ⟨hb1, hb2⟩ := hb
        have hcan := dec_canon _ (b :: t) rfl (by simp) (fun x hx => List.all_eq_true.1 hb2 x hx) (fun b' t' he hb' => by
          injection he with h1 h2
          subst h1 h2
          have := (hb1 hb').1
          simp at this
          exact this)
        unfold numVal at h
        cases hn : numN s with
        | true =>
          rw [hn, hD] at h
          simp only [if_true] at h
          have hs : s = 45 :: (b :: t) := by
            cases s with
            | nil => simp [numN] at hn
            | cons x r =>
              have hx : x.toNat = 45 := by simpa [numN] using hn
              have hxr : x = 45 := UInt8.toNat_inj.1 hx
              unfold numD at hD
              rw [hn] at hD
              simp at hD
              rw [hxr, hD]
          have hb0 : b.toNat ≠ 48 := fun h0 => by have := (hb1 h0).2; rw [hn] at this; simp at this
          have hpos : 1 ≤ numV 0 (b :: t) := by
            have hbd : 48 ≤ b.toNat ∧ b.toNat ≤ 57 := by have := List.all_eq_true.1 hb2 b (by simp); simpa [isDg] using this
            have hge := numV_ge t (b.toNat - 48)
            rw [numV_cons, Nat.zero_mul, Nat.zero_add]
            have h1 : 1 ≤ 10 ^ t.length := Nat.one_le_iff_ne_zero.2 (by simp)
            have h2 : 1 * 1 ≤ (b.toNat - 48) * 10 ^ t.length := Nat.mul_le_mul (by omega) h1
            omega
          rw [← h, Lib.itoa_neg _ hpos, hcan, hs]
        | false =>
          rw [hn, hD] at h
          simp only [Bool.false_eq_true, if_false] at h
          have hs : s = b :: t := by unfold numD at hD; rw [hn] at hD; simpa using hD
          rw [← h, Lib.itoa_nonneg, hcan, hs]

def NL : List (List UInt8) := [[82, 69, 65, 68, 73, 78, 71], [83, 72, 79, 82, 84], [76, 79, 78, 71], [71, 65, 80], [79, 86, 69, 82, 76, 65, 80], [83, 72, 79, 84], [82, 79, 87, 83], [67, 79, 76, 83], [67, 72, 65, 82, 83], [83, 65, 70, 69], [84, 79, 76, 69, 82, 65, 78, 67, 69], [84, 69, 82, 77]]
def nmR (r : Int) : List UInt8 := if 1 ≤ r ∧ r ≤ 12 then NL.getD (r - 1).toNat [] else []
theorem NL_facts : ∀ i : Fin 12, plainW (NL.getD i.1 []) ∧ (NL.getD i.1 []).length ≤ 9 := by unfold plainW; decide
theorem twelve {r : Int} (h : 1 ≤ r ∧ r ≤ 12) : ∃ i : Fin 12, r = (i.1 : Int) + 1 := ⟨⟨(r - 1).toNat, by omega⟩, by simp; omega⟩
theorem nmR_ok {r : Int} (h : 1 ≤ r ∧ r ≤ 12) : plainW (nmR r) ∧ (nmR r).length ≤ 9 := by
  obtain ⟨i, rfl⟩ := twelve h
  unfold nmR
  rw [if_pos h]
  have e : ((i.1 : Int) + 1 - 1).toNat = i.1 := by omega
  rw [e]
  exact NL_facts i
theorem nmR_nil {r : Int} : (nmR r == ([] : List UInt8)) = !(decide (1 ≤ r ∧ r ≤ 12)) := by
  by_cases h : 1 ≤ r ∧ r ≤ 12
  · have := (nmR_ok h).1.1
    simp [h, this]
  · simp [nmR, h]
theorem nm_at {r : Int} (h : 1 ≤ r ∧ r ≤ 12) : atI NL (IntKind.u8.wrap (r - 1)) = some (nmR r) := by
  obtain ⟨i, rfl⟩ := twelve h
  unfold nmR
  rw [if_pos h]
  revert i
  decide
theorem rules_Name_eq (r : Int) : g_rules_Name r = some (nmR r) := by
  unfold g_rules_Name
  by_cases h1 : r < 1
  · have : nmR r = [] := by unfold nmR; rw [if_neg (by omega)]
    simp [h1, this]
  · by_cases h2 : 12 < r
    · have : nmR r = [] := by unfold nmR; rw [if_neg (by omega)]
      simp [h1, h2, this]
    · have hn : g_rules_names = some NL := rfl
      have e := nm_at (r := r) ⟨by omega, by omega⟩
      simp only [h1, h2, decide_false, Bool.false_eq_true, if_false, Option.bind_some, hn, e]
theorem ref_Name_eq' (r : Int) : g_ref41_Name r = some (nmR r) := by
  unfold g_ref41_Name
  by_cases h1 : r < 1
  · have : nmR r = [] := by unfold nmR; rw [if_neg (by omega)]
    simp [h1, this]
  · by_cases h2 : 12 < r
    · have : nmR r = [] := by unfold nmR; rw [if_neg (by omega)]
      simp [h1, h2, this]
    · have e := nm_at (r := r) ⟨by omega, by omega⟩
      unfold NL at e
      simp only [h1, h2, decide_false, Bool.false_eq_true, if_false, Option.bind_some, e]
/-- A finding whose numbers are Go's. -/
def fOK (f : T_api_Finding) : Prop := (-9223372036854775808 ≤ f.ID ∧ f.ID ≤ 9223372036854775807) ∧ (-9223372036854775808 ≤ f.Other ∧ f.Other ≤ 9223372036854775807) ∧ (-9223372036854775808 ≤ f.Amount ∧ f.Amount ≤ 9223372036854775807)
def rOK (f : T_api_Finding) : Bool := decide (1 ≤ f.Rule ∧ f.Rule ≤ 12)
def lineW (f : T_api_Finding) : List (List UInt8) := [nmR f.Rule, Lib.itoa f.ID, Lib.itoa f.Other, Lib.itoa f.Amount]
def lineT (f : T_api_Finding) : List UInt8 := Lib.join (lineW f) [32]
def ftext (l : List T_api_Finding) : List UInt8 := l.flatMap fun f => lineT f ++ [10]
theorem lineT_eq (f : T_api_Finding) : lineT f ++ [10] = ((((((nmR f.Rule ++ [32]) ++ Lib.itoa f.ID) ++ [32]) ++ Lib.itoa f.Other) ++ [32]) ++ Lib.itoa f.Amount) ++ [10] := by
  unfold lineT lineW
  rw [Lib.join_cons]
  simp [Lib.joinTail]
theorem itoa_len {n : Int} (h : -9223372036854775808 ≤ n ∧ n ≤ 9223372036854775807) : (Lib.itoa n).length ≤ 21 := Lib.itoa_length_le n h.1 h.2
theorem line_len {f : T_api_Finding} (h : fOK f) (hr : rOK f = true) : (lineT f ++ [10]).length ≤ 100 := by
  have h0 := (nmR_ok (of_decide_eq_true hr)).2
  have h1 := itoa_len h.1
  have h2 := itoa_len h.2.1
  have h3 := itoa_len h.2.2
  rw [lineT_eq]
  simp only [List.length_append, List.length_cons, List.length_nil]
  omega
theorem ftext_len : ∀ (l : List T_api_Finding), (∀ f ∈ l, fOK f) → l.all rOK = true → (ftext l).length ≤ 100 * l.length
  | [], _, _ => by simp [ftext]
  | f :: l, h, hr => by
    simp only [List.all_cons, Bool.and_eq_true] at hr
    have h1 := ftext_len l (fun x hx => h x (by simp [hx])) hr.2
    have h2 := line_len (h f (by simp)) hr.1
    simp only [ftext, List.flatMap_cons, List.length_append, List.length_cons, List.length_nil] at h1 h2 ⊢
    omega
theorem ftext_take {l : List T_api_Finding} {i : Nat} (h : i < l.length) : ftext (l.take (i + 1)) = ftext (l.take i) ++ (lineT l[i] ++ [10]) := by
  unfold ftext
  rw [List.take_succ_eq_append_getElem h, List.flatMap_append, List.flatMap_cons, List.flatMap_nil, List.append_nil]
theorem all_take {l : List T_api_Finding} {i : Nat} (h : i < l.length) : (l.take (i + 1)).all rOK = ((l.take i).all rOK && rOK l[i]) := by
  rw [List.take_succ_eq_append_getElem h, List.all_append]; simp
theorem all_of_take {l : List T_api_Finding} {i : Nat} (h : i < l.length) (hr : rOK l[i] = false) : l.all rOK = false := by
  cases hl : l.all rOK with
  | false => rfl
  | true => have := List.all_eq_true.1 hl l[i] (List.getElem_mem h); rw [hr] at this; cases this
theorem prog_loop (l : List T_api_Finding) (hl : l.length ≤ 1000) (hz : ∀ f ∈ l, fOK f) : iter (g_rules_Text_s1 l) (0, []) = some (if l.all rOK = true then .inr (toI (ftext l)) else .inl ()) := by
  refine iter_of (fun x e => ∃ i : Nat, i ≤ l.length ∧ x = ((i : Int), toI (ftext (l.take i))) ∧ (l.take i).all rOK = true ∧ e = (if l.all rOK = true then .inr (toI (ftext l)) else .inl ())) (fun x => (l.length - x.1.toNat)) ?_ (x := (0, [])) ⟨0, Nat.zero_le _, rfl, rfl, rfl⟩ (by simp; omega)
  rintro x e ⟨i, hi, rfl, hall, rfl⟩
  by_cases h : i < l.length
  · have hf := hz l[i] (List.getElem_mem h)
    have hw := wrap_i64 ((i : Int) + 1) (by omega) (by omega)
    have hlt := ftext_len (l.take i) (fun f hf => hz f (List.mem_of_mem_take hf)) hall
    rw [List.length_take] at hlt
    simp only [g_rules_Text_s1, atI_nat h, Option.bind_some, rules_Name_eq, nmR_nil]
    rw [if_pos (by simpa using h)]
    cases hr : rOK l[i] with
    | true =>
      have hr' := of_decide_eq_true hr
      left
      rw [if_neg (by simp [hr'])]
      have a0 := (nmR_ok hr').2
      have a1 := itoa_len hf.1
      have a2 := itoa_len hf.2.1
      have a3 := itoa_len hf.2.2
      have ll := line_len hf hr
      simp only [Decimal_eq, Option.bind_some]
      rw [← lineT_eq]
      rw [if_pos (by omega), if_pos (by omega), if_pos (by omega), if_pos (by omega), if_pos (by omega), if_pos (by omega), if_pos (by omega), if_pos (by rw [toI_length]; omega), hw]
      refine ⟨_, rfl, ⟨i + 1, by omega, ?_, by rw [all_take h, hall, hr]; rfl, (by first | rfl | trivial)⟩, by simp; omega⟩
      rw [ftext_take h]
      simp [toI]
    | false =>
      right
      have hr' : ¬ (1 ≤ l[i].Rule ∧ l[i].Rule ≤ 12) := of_decide_eq_false hr
      rw [if_pos (by simp [hr']), all_of_take h hr]
      rfl
  · obtain rfl : i = l.length := by omega
    right
    rw [List.take_length] at hall ⊢
    simp [g_rules_Text_s1, hall]
theorem ref_loop (l : List T_api_Finding) (hl : l.length ≤ 1000) (hz : ∀ f ∈ l, fOK f) : iter (g_ref41_Text_s1 l) ([], 0) = some (if l.all rOK = true then .inr (ftext l) else .inl ()) := by
  refine iter_of (fun x e => ∃ i : Nat, i ≤ l.length ∧ x = (ftext (l.take i), (i : Int)) ∧ (l.take i).all rOK = true ∧ e = (if l.all rOK = true then .inr (ftext l) else .inl ())) (fun x => (l.length - x.2.toNat)) ?_ (x := ([], 0)) ⟨0, Nat.zero_le _, rfl, rfl, rfl⟩ (by simp; omega)
  rintro x e ⟨i, hi, rfl, hall, rfl⟩
  by_cases h : i < l.length
  · have hf := hz l[i] (List.getElem_mem h)
    have hw := wrap_i64 ((i : Int) + 1) (by omega) (by omega)
    have hlt := ftext_len (l.take i) (fun f hf => hz f (List.mem_of_mem_take hf)) hall
    rw [List.length_take] at hlt
    simp only [g_ref41_Text_s1, atI_nat h, Option.bind_some, ref_Name_eq', nmR_nil]
    rw [if_pos (by simpa using h)]
    cases hr : rOK l[i] with
    | true =>
      have hr' := of_decide_eq_true hr
      left
      rw [if_neg (by simp [hr'])]
      have a0 := (nmR_ok hr').2
      have a1 := itoa_len hf.1
      have a2 := itoa_len hf.2.1
      have a3 := itoa_len hf.2.2
      simp only [ref_Decimal_eq _ hf.1.1 hf.1.2, ref_Decimal_eq _ hf.2.1.1 hf.2.1.2, ref_Decimal_eq _ hf.2.2.1 hf.2.2.2, Option.bind_some]
      rw [if_pos (by omega), if_pos (by omega), if_pos (by omega), if_pos (by omega), if_pos (by omega), if_pos (by omega), if_pos (by omega), if_pos (by omega), hw]
      refine ⟨_, rfl, ⟨i + 1, by omega, ?_, by rw [all_take h, hall, hr]; rfl, (by first | rfl | trivial)⟩, by simp; omega⟩
      rw [ftext_take h, lineT_eq]
      simp
    | false =>
      right
      have hr' : ¬ (1 ≤ l[i].Rule ∧ l[i].Rule ≤ 12) := of_decide_eq_false hr
      rw [if_pos (by simp [hr']), all_of_take h hr]
      rfl
  · obtain rfl : i = l.length := by omega
    right
    rw [List.take_length] at hall ⊢
    simp [g_ref41_Text_s1, hall]
theorem rules_Text_eq (l : List T_api_Finding) (hl : l.length ≤ 1000) (hz : ∀ f ∈ l, fOK f) : g_rules_Text l = some (if l.all rOK = true then (ftext l, 0) else ([], 3)) := by
  unfold g_rules_Text
  rw [prog_loop l hl hz]
  split
  · simp [bytesOf_toI]
  · rfl
theorem ref_Text_eq (l : List T_api_Finding) (hl : l.length ≤ 1000) (hz : ∀ f ∈ l, fOK f) : g_ref41_Text l = some (if l.all rOK = true then (ftext l, 0) else ([], 3)) := by
  unfold g_ref41_Text
  rw [ref_loop l hl hz]
  split <;> rfl
section
variable {X E : Type} {step : X → Option (Nx X E)} {x0 x1 x2 x3 : X} {e : E}
theorem iter1 (h0 : step x0 = some (.out e)) : iter step x0 = some e := by
  show iterN step (73786976294838206463 + 1) x0 = some e
  simp only [iterN, h0]
theorem iter2 (h0 : step x0 = some (.go x1)) (h1 : step x1 = some (.out e)) : iter step x0 = some e := by
  show iterN step (73786976294838206462 + 1 + 1) x0 = some e
  simp only [iterN, h0, h1]
theorem iter3 (h0 : step x0 = some (.go x1)) (h1 : step x1 = some (.go x2)) (h2 : step x2 = some (.out e)) : iter step x0 = some e := by
  show iterN step (73786976294838206461 + 1 + 1 + 1) x0 = some e
  simp only [iterN, h0, h1, h2]
theorem iter4 (h0 : step x0 = some (.go x1)) (h1 : step x1 = some (.go x2)) (h2 : step x2 = some (.go x3)) (h3 : step x3 = some (.out e)) : iter step x0 = some e := by
  show iterN step (73786976294838206460 + 1 + 1 + 1 + 1) x0 = some e
  simp only [iterN, h0, h1, h2, h3]
end
abbrev loN : Int := -9223372036854775808
abbrev hiN : Int := 9223372036854775807
/-- The rule with a name, among the first i. -/
def rl (w : List UInt8) : Nat → Int
  | 0 => 0
  | i + 1 => if NL.getD i [] == w then (i : Int) + 1 else rl w i
def ruleOf (w : List UInt8) : Int := rl w 12
theorem rl_back : ∀ i : Fin 12, ruleOf (NL.getD i.1 []) = (i.1 : Int) + 1 := by decide
theorem ruleOf_nmR {r : Int} (h : 1 ≤ r ∧ r ≤ 12) : ruleOf (nmR r) = r := by
  obtain ⟨i, rfl⟩ := twelve h
  unfold nmR
  rw [if_pos h]
  have e : ((i.1 : Int) + 1 - 1).toNat = i.1 := by omega
  rw [e]
  exact rl_back i
theorem rl_some (w : List UInt8) : ∀ i, rl w i ≠ 0 → ∃ k : Nat, k < i ∧ rl w i = (k : Int) + 1 ∧ NL.getD k [] = w
  | 0, h => absurd rfl h
  | i + 1, h => by
    simp only [rl] at h ⊢
    split
    · rename_i he; exact ⟨i, by omega, rfl, by simpa using he⟩
    · rename_i he
      rw [if_neg he] at h
      obtain ⟨k, h1, h2, h3⟩ := rl_some w i h
      exact ⟨k, by omega, h2, h3⟩
theorem ruleOf_some {w : List UInt8} (h : ruleOf w ≠ 0) : (1 ≤ ruleOf w ∧ ruleOf w ≤ 12) ∧ nmR (ruleOf w) = w := by
  obtain ⟨k, h1, h2, h3⟩ := rl_some w 12 h
  have h2' : ruleOf w = (k : Int) + 1 := h2
  refine ⟨by omega, ?_⟩
  unfold nmR
  rw [h2', if_pos (by omega)]
  have e : ((k : Int) + 1 - 1).toNat = k := by omega
  rw [e, h3]
def zeroF : T_api_Finding := ⟨0, 0, 0, 0⟩
/-- Three numbers. -/
def fdN (b c d : List UInt8) : Option (Int × Int × Int) :=
  if (numS b loN hiN).2 = 0 then (if (numS c loN hiN).2 = 0 then (if (numS d loN hiN).2 = 0 then some ((numS b loN hiN).1, (numS c loN hiN).1, (numS d loN hiN).1) else none) else none) else none
def fd4 (a b c d : List UInt8) : T_api_Finding × Bool := match fdN b c d with
  | none => (zeroF, false)
  | some v => (⟨ruleOf a, v.1, v.2.1, v.2.2⟩, ruleOf a != 0)
def fdS (w : List UInt8) : T_api_Finding × Bool := match spB 32 w with
  | [a, b, c, d] => fd4 a b c d
  | _ => (zeroF, false)
theorem NL_at {i : Nat} (h : i < 12) : atI NL (i : Int) = some (NL.getD i []) := by
  have hl : i < NL.length := h
  rw [atI_nat hl]
  simp [List.getD, hl]
theorem names_loop (a : List UInt8) (r7 : List (List UInt8)) (h : atI r7 0 = some a) : iter (g_rules_finding_s1 r7 NL) (0, 0) = some (ruleOf a) := by
  refine iter_chain (fun i => ((i : Int), rl a i)) 12 (by omega) (fun i hi => ?_) ?_
  · have hw := wrap_i64 ((i : Int) + 1) (by omega) (by omega)
    have hl : (i : Int) < (NL.length : Int) := by show (i : Int) < ((12 : Nat) : Int); omega
    have hw1 : IntKind.u8.wrap (i : Int) = i := wr8 (by omega)
    have hw2 : IntKind.u8.wrap (1 + (i : Int)) = (i : Int) + 1 := by rw [wr8 (by omega)]; omega
    simp only [g_rules_finding_s1, NL_at hi, Option.bind_some, h, hw, hw1, hw2, rl]
    rw [if_pos (by simpa using hl)]
    split <;> simp
  · simp [g_rules_finding_s1, NL, ruleOf]
theorem ref_names_loop (a : List UInt8) (r7 : List (List UInt8)) (h : atI r7 0 = some a) : iter (g_ref41_finding_s1 r7) (0, 1) = some (ruleOf a) := by
  refine iter_chain (fun i => (rl a i, (i : Int) + 1)) 12 (by omega) (fun i hi => ?_) ?_
  · have hw2 : IntKind.u8.wrap ((i : Int) + 1 + 1) = ((i + 1 : Nat) : Int) + 1 := by rw [wr8 (by omega)]; omega
    have hn : nmR ((i : Int) + 1) = NL.getD i [] := by
      unfold nmR
      rw [if_pos (by omega)]
      congr 1; omega
    simp only [g_ref41_finding_s1, ref_Name_eq', Option.bind_some, h, hw2, hn, rl]
    rw [if_pos (by simp; omega)]
    split <;> simp
  · simp [g_ref41_finding_s1, ruleOf]
theorem nums_loop (a b c d : List UInt8) (hb : b.length ≤ 2000) (hc : c.length ≤ 2000) (hd : d.length ≤ 2000) : iter (g_rules_finding_s2 [a, b, c, d]) (0, 0, 0, 0) = some (match fdN b c d with | none => .inl () | some v => .inr v) := by
  have eb := lines_Number_eq b loN hiN (by omega)
  have ec := lines_Number_eq c loN hiN (by omega)
  have ed := lines_Number_eq d loN hiN (by omega)
  have s0 : g_rules_finding_s2 [a, b, c, d] (0, 0, 0, 0) = some (if (numS b loN hiN).2 = 0 then .go (1, (numS b loN hiN).1, 0, 0) else .out (.inl ())) := by
    simp [g_rules_finding_s2, wr64, atI, eb, bne]
    split <;> simp_all
  have s1 : ∀ x, g_rules_finding_s2 [a, b, c, d] (1, x, 0, 0) = some (if (numS c loN hiN).2 = 0 then .go (2, x, (numS c loN hiN).1, 0) else .out (.inl ())) := by
    intro x
    simp [g_rules_finding_s2, wr64, atI, ec, bne]
    split <;> simp_all
  have s2 : ∀ x y, g_rules_finding_s2 [a, b, c, d] (2, x, y, 0) = some (if (numS d loN hiN).2 = 0 then .go (3, x, y, (numS d loN hiN).1) else .out (.inl ())) := by
    intro x y
    simp [g_rules_finding_s2, wr64, atI, ed, bne]
    split <;> simp_all
  have s3 : ∀ x y z, g_rules_finding_s2 [a, b, c, d] (3, x, y, z) = some (.out (.inr (x, y, z))) := by intro x y z; simp [g_rules_finding_s2]
  unfold fdN
  by_cases h1 : (numS b loN hiN).2 = 0
  · rw [if_pos h1] at s0 ⊢
    by_cases h2 : (numS c loN hiN).2 = 0
    · rw [if_pos h2]
      by_cases h3 : (numS d loN hiN).2 = 0
      · rw [if_pos h3]
        exact iter4 s0 (by rw [s1, if_pos h2]) (by rw [s2, if_pos h3]) (s3 _ _ _)
      · rw [if_neg h3]
        exact iter3 s0 (by rw [s1, if_pos h2]) (by rw [s2, if_neg h3])
    · rw [if_neg h2]
      exact iter2 s0 (by rw [s1, if_neg h2])
  · rw [if_neg h1] at s0 ⊢
    exact iter1 s0
theorem ref_nums_loop (b c d : List UInt8) (hb : b.length ≤ 2000) (hc : c.length ≤ 2000) (hd : d.length ≤ 2000) : iter (g_ref41_finding_s2 [b, c, d]) (0, []) = some (match fdN b c d with | none => .inl () | some v => .inr [v.1, v.2.1, v.2.2]) := by
  have eb := ref_Number_eq b loN hiN (by omega)
  have ec := ref_Number_eq c loN hiN (by omega)
  have ed := ref_Number_eq d loN hiN (by omega)
  have s0 : g_ref41_finding_s2 [b, c, d] (0, []) = some (if (numS b loN hiN).2 = 0 then .go (1, [(numS b loN hiN).1]) else .out (.inl ())) := by
    simp [g_ref41_finding_s2, wr64, atI, eb, bne]
    split <;> simp_all
  have s1 : ∀ x, g_ref41_finding_s2 [b, c, d] (1, [x]) = some (if (numS c loN hiN).2 = 0 then .go (2, [x, (numS c loN hiN).1]) else .out (.inl ())) := by
    intro x
    simp [g_ref41_finding_s2, wr64, atI, ec, bne]
    split <;> simp_all
  have s2 : ∀ x y, g_ref41_finding_s2 [b, c, d] (2, [x, y]) = some (if (numS d loN hiN).2 = 0 then .go (3, [x, y, (numS d loN hiN).1]) else .out (.inl ())) := by
    intro x y
    simp [g_ref41_finding_s2, wr64, atI, ed, bne]
    split <;> simp_all
  have s3 : ∀ x y z, g_ref41_finding_s2 [b, c, d] (3, [x, y, z]) = some (.out (.inr [x, y, z])) := by intro x y z; simp [g_ref41_finding_s2]
  unfold fdN
  by_cases h1 : (numS b loN hiN).2 = 0
  · rw [if_pos h1] at s0 ⊢
    by_cases h2 : (numS c loN hiN).2 = 0
    · rw [if_pos h2]
      by_cases h3 : (numS d loN hiN).2 = 0
      · rw [if_pos h3]
        exact iter4 s0 (by rw [s1, if_pos h2]) (by rw [s2, if_pos h3]) (s3 _ _ _)
      · rw [if_neg h3]
        exact iter3 s0 (by rw [s1, if_pos h2]) (by rw [s2, if_neg h3])
    · rw [if_neg h2]
      exact iter2 s0 (by rw [s1, if_neg h2])
  · rw [if_neg h1] at s0 ⊢
    exact iter1 s0
theorem rules_finding_eq (w : List UInt8) (hw : w.length ≤ 2000) : g_rules_finding w = some (fdS w) := by
  unfold g_rules_finding fdS
  rw [Split_eq _ _ (by omega)]
  have hle := spB_le 32 w
  generalize spB 32 w = ws at *
  simp only [Option.bind_some]
  match ws, hle with
  | [a, b, c, d], hle =>
    rw [if_neg (by simp)]
    have hn : g_rules_names = some NL := rfl
    rw [hn]
    simp only [Option.bind_some]
    rw [names_loop a [a, b, c, d] rfl]
    simp only [Option.bind_some]
    have h1 := hle b (by simp)
    have h2 := hle c (by simp)
    have h3 := hle d (by simp)
    rw [nums_loop a b c d (by omega) (by omega) (by omega)]
    unfold fd4
    cases fdN b c d with
    | none => rfl
    | some v => rfl
  | [], _ => rfl
  | [_], _ => rfl
  | [_, _], _ => rfl
  | [_, _, _], _ => rfl
  | _ :: _ :: _ :: _ :: _ :: l, _ =>
    rw [if_pos (by simp; omega)]
    rfl
/-- The reference's words. -/
theorem words_eq (s : List UInt8) (c : UInt8) (hs : s.length ≤ 2000) : g_ref41_words s (c.toNat : Int) = some (spB c s) := by
  have key : iter (g_ref41_words_s1 s (c.toNat : Int)) (0, 0, []) = some (spB c s) := by
    refine iter_of (fun x e => e = spB c s ∧ ∃ (f i : Nat) (out : List (List UInt8)), f ≤ i ∧ x = ((f : Int), (i : Int), out) ∧ out.length ≤ i ∧ ((i = s.length + 1 ∧ out = spB c s) ∨ (i ≤ s.length ∧ (∀ (k : Nat) (h : k < s.length), f ≤ k → k < i → s[k] ≠ c) ∧ out ++ spB c (s.drop f) = spB c s))) (fun x => s.length + 1 - x.2.1.toNat) ?_ ⟨rfl, 0, 0, [], Nat.le_refl _, rfl, by simp, .inr ⟨by omega, fun k _ _ h => by omega, by simp⟩⟩ (by simp; omega)
    rintro x e ⟨rfl, f, i, out, hfi, rfl, hol, hcase⟩
    rcases hcase with ⟨rfl, rfl⟩ | ⟨hi, hno, hpre⟩
    · right
      simp only [g_ref41_words_s1]
      rw [if_neg (by simp; omega)]
    · left
      have hw := wrap_i64 ((i : Int) + 1) (by omega) (by omega)
      by_cases hil : i = s.length
      · subst hil
        have hsub : subI s (f : Int) ((s.length : Nat) : Int) = some (s.drop f) := by
          rw [subI_nat hfi (Nat.le_refl _)]
          rw [List.take_of_length_le (by rw [List.length_drop]; omega)]
        have hnc : c ∉ s.drop f := by
          intro hm
          obtain ⟨k, hk, hkc⟩ := List.getElem_of_mem hm
          rw [List.getElem_drop] at hkc
          rw [List.length_drop] at hk
          exact hno (f + k) (by omega) (by omega) (by omega) hkc
        simp only [g_ref41_words_s1, hw]
        rw [if_pos (by simp), if_pos (by simp)]
        simp only [Option.bind_some, if_true, hsub]
        rw [if_pos (by omega)]
        refine ⟨_, rfl, ⟨(by first | rfl | trivial), s.length + 1, s.length + 1, _, Nat.le_refl _, rfl, by simp; omega, .inl ⟨rfl, ?_⟩⟩, by simp⟩
        rw [← hpre, spB_no c _ hnc]
      · have hlt : i < s.length := by omega
        have hat := atI_nat hlt
        by_cases hc : s[i] = c
        · have hsub := subI_nat (s := s) hfi (Nat.le_of_lt hlt)
          simp only [g_ref41_words_s1, hw]
          rw [if_pos (by simp; omega), if_neg (by simp; omega), hat]
          have hcc : (((s[i].toNat : Int)) == (c.toNat : Int)) = true := by rw [hc]; simp
          simp only [Option.bind_some, hcc, if_true, hsub]
          rw [if_pos (by omega)]
          refine ⟨_, rfl, ⟨(by first | rfl | trivial), i + 1, i + 1, _, Nat.le_refl _, rfl, by simp; omega, .inr ⟨by omega, fun k h h1 h2 => by omega, ?_⟩⟩, by simp; omega⟩
          have hhit := spB_hit c (i - f) (s.drop f) (by rw [List.length_drop]; omega) (by rw [List.getElem_drop]; simp only [show f + (i - f) = i by omega]; exact hc) (fun j hj => by
            rw [List.getElem_drop]
            exact hno (f + j) (by omega) (by omega) (by omega))
          rw [List.drop_drop] at hhit
          have e : f + (i - f + 1) = i + 1 := by omega
          rw [e] at hhit
          rw [← hpre, hhit, List.append_assoc]
          rfl
        · have hcc : (((s[i].toNat : Int)) == (c.toNat : Int)) = false := by
            have : s[i].toNat ≠ c.toNat := fun h => hc (UInt8.toNat_inj.1 h)
            simp; omega
          simp only [g_ref41_words_s1, hw]
          rw [if_pos (by simp; omega), if_neg (by simp; omega), hat]
          simp only [Option.bind_some, hcc, Bool.false_eq_true, if_false]
          refine ⟨_, rfl, ⟨(by first | rfl | trivial), f, i + 1, out, by omega, rfl, by omega, .inr ⟨by omega, fun k h h1 h2 => ?_, hpre⟩⟩, by simp; omega⟩
          by_cases hk : k = i
          · subst hk; exact hc
          · exact hno k h h1 (by omega)
  unfold g_ref41_words
  rw [key]
  rfl
theorem ref_finding_eq (w : List UInt8) (hw : w.length ≤ 2000) : g_ref41_finding w = some (fdS w) := by
  unfold g_ref41_finding fdS
  have hwd := words_eq w 32 hw
  have e32 : (((32 : UInt8).toNat : Nat) : Int) = 32 := rfl
  rw [e32] at hwd
  rw [hwd]
  have hle := spB_le 32 w
  generalize spB 32 w = ws at *
  simp only [Option.bind_some]
  match ws, hle with
  | [a, b, c, d], hle =>
    rw [if_neg (by simp)]
    rw [ref_names_loop a [a, b, c, d] rfl]
    have hs : subL [a, b, c, d] 1 = some [b, c, d] := rfl
    simp only [Option.bind_some, hs]
    have h1 := hle b (by simp)
    have h2 := hle c (by simp)
    have h3 := hle d (by simp)
    rw [ref_nums_loop b c d (by omega) (by omega) (by omega)]
    unfold fd4
    cases fdN b c d with
    | none => rfl
    | some v => rfl
  | [], _ => rfl
  | [_], _ => rfl
  | [_, _], _ => rfl
  | [_, _, _], _ => rfl
  | _ :: _ :: _ :: _ :: _ :: l, _ =>
    rw [if_pos (by simp; omega)]
    rfl
theorem spB_mem (c : UInt8) : ∀ (s : List UInt8), ∀ w ∈ spB c s, c ∉ w
  | [], w, h => by simp [spB] at h; subst h; simp
  | b :: t, w, h => by
    have ih := spB_mem c t
    simp only [spB] at h
    split at h
    · rcases List.mem_cons.1 h with rfl | h
      · simp
      · exact ih w h
    · rename_i hb
      split at h
      · rename_i e; exact absurd e (spB_ne c t)
      · rename_i v r e
        rcases List.mem_cons.1 h with rfl | h
        · intro hm
          rcases List.mem_cons.1 hm with h1 | h1
          · exact hb h1.symm
          · exact ih v (by rw [e]; simp) h1
        · exact ih w (by rw [e]; simp [h])
theorem spB_length (c : UInt8) : ∀ (s : List UInt8), (spB c s).length ≤ s.length + 1
  | [] => by simp [spB]
  | b :: t => by
    have ih := spB_length c t
    simp only [spB]
    split
    · simp; omega
    · split
      · simp
      · rename_i e; rw [e] at ih; simp at ih ⊢; omega
/-- The findings of the pieces between line ends. -/
def parseL : List (List UInt8) → Option (List T_api_Finding)
  | [] => none
  | [w] => if w = [] then some [] else none
  | w :: v :: r => if (fdS w).2 = true then (match parseL (v :: r) with
    | some l => some ((fdS w).1 :: l)
    | none => none) else none
def eParse (acc : List T_api_Finding) (ps : List (List UInt8)) : List T_api_Finding ⊕ Unit := match parseL ps with
  | some l => .inl (acc ++ l)
  | none => .inr ()
theorem join2_ne (w v : List UInt8) (r : List (List UInt8)) : Lib.join (w :: v :: r) [10] ≠ [] := by
  rw [Lib.join_cons]; simp [Lib.joinTail]
theorem parse_loop (s : List UInt8) (hs : s.length ≤ 1700) : iter g_rules_Parse_s1 (s, []) = some (eParse [] (spB 10 s)) := by
  refine iter_of (fun x e => ∃ ps, ps ≠ [] ∧ (∀ w ∈ ps, (10 : UInt8) ∉ w ∧ w.length ≤ 1700) ∧ x.1 = Lib.join ps [10] ∧ x.1.length ≤ 1700 ∧ x.2.length + ps.length ≤ 2000 ∧ e = eParse x.2 ps) (fun x => x.1.length) ?_ ⟨spB 10 s, spB_ne 10 s, fun w hw => ⟨spB_mem 10 s w hw, Nat.le_trans (spB_le 10 s w hw) hs⟩, (join_spB 10 s).symm, hs, ?_, rfl⟩ (by simp; omega)
  · rintro ⟨rest, acc⟩ e ⟨ps, hne, hp, rfl, hl, hal, rfl⟩
    replace hl : (Lib.join ps [10]).length ≤ 1700 := hl
    replace hal : acc.length + ps.length ≤ 2000 := hal
    match ps, hne, hp, hl, hal with
    | [w], _, hp, hl, hal =>
      right
      rw [Lib.join_one]
      by_cases hw : w = []
      · subst hw
        simp [g_rules_Parse_s1, eParse, parseL]
      · have hc := Cut_eq w 10
        rw [spB_no 10 w (hp w (by simp)).1] at hc
        have hlw := (hp w (by simp)).2
        simp only [g_rules_Parse_s1, g_strings_Cut]
        rw [if_neg (by simpa using hw), if_pos (by omega), hc]
        simp only [Option.bind_some, rules_finding_eq w (by omega), Bool.false_eq_true, if_false, if_true]
        simp [eParse, parseL, hw]
    | w :: v :: r, _, hp, hl, hal =>
      have hnn := join2_ne w v r
      have hc := Cut_eq (Lib.join (w :: v :: r) [10]) 10
      rw [spB_join 10 (w :: v :: r) (by simp) (fun x hx => (hp x hx).1)] at hc
      have hlw := (hp w (by simp)).2
      have hlen : (Lib.join (w :: v :: r) [10]).length = w.length + 1 + (Lib.join (v :: r) [10]).length := by
        rw [Lib.join_cons, Lib.join_cons]; simp [Lib.joinTail]; omega
      simp only [g_rules_Parse_s1, g_strings_Cut]
      rw [if_neg (by simpa using hnn), if_pos (by omega), hc]
      simp only [Option.bind_some, rules_finding_eq w (by omega), if_true]
      cases hf : (fdS w).2 with
      | false =>
        right
        simp [eParse, parseL, hf]
      | true =>
        left
        simp only [Bool.not_true, Bool.false_eq_true, if_false]
        simp only [List.length_cons] at hal
        rw [if_pos (by omega)]
        refine ⟨_, rfl, ⟨v :: r, by simp, fun x hx => hp x (List.mem_cons_of_mem _ hx), rfl, by first | omega | (simp only; omega), by simp; omega, ?_⟩, by first | omega | (simp only; omega)⟩
        unfold eParse
        simp only [parseL, hf, if_true]
        cases parseL (v :: r) <;> simp
  · have := spB_length 10 s; simp; omega
theorem rules_Parse_eq (s : List UInt8) (hs : s.length ≤ 1700) : g_rules_Parse s = some (match parseL (spB 10 s) with | some l => (l, 0) | none => ([], 4)) := by
  unfold g_rules_Parse
  rw [parse_loop s hs]
  unfold eParse
  cases parseL (spB 10 s) <;> simp
theorem parseL_all : ∀ (ps : List (List UInt8)) (h : ps ≠ []), parseL ps = if ps.getLast h = [] then (if ps.dropLast.all (fun w => (fdS w).2) = true then some (ps.dropLast.map fun w => (fdS w).1) else none) else none
  | [w], _ => by simp [parseL]
  | w :: v :: r, _ => by
    have ih := parseL_all (v :: r) (by simp)
    simp only [parseL, ih, List.getLast_cons_cons, List.dropLast_cons_cons, List.all_cons, List.map_cons]
    by_cases h1 : (v :: r).getLast (by simp) = []
    · simp only [h1, if_true]
      cases h2 : (fdS w).2 <;> simp
      split <;> simp_all
    · simp [h1]
theorem ref_Parse_loop (z : List (List UInt8)) (hz : z.length ≤ 2000) (hw : ∀ w ∈ z, w.length ≤ 1700) : iter (g_ref41_Parse_s1 z) (0, []) = some (if z.all (fun w => (fdS w).2) = true then .inr (z.map fun w => (fdS w).1) else .inl ()) := by
  refine iter_of (fun x e => ∃ i : Nat, i ≤ z.length ∧ x = ((i : Int), (z.take i).map fun w => (fdS w).1) ∧ (z.take i).all (fun w => (fdS w).2) = true ∧ e = (if z.all (fun w => (fdS w).2) = true then .inr (z.map fun w => (fdS w).1) else .inl ())) (fun x => z.length - x.1.toNat) ?_ (x := (0, [])) ⟨0, Nat.zero_le _, rfl, rfl, rfl⟩ (by simp; omega)
  rintro x e ⟨i, hi, rfl, hall, rfl⟩
  by_cases h : i < z.length
  · have hwr := wrap_i64 ((i : Int) + 1) (by omega) (by omega)
    have hwl := hw z[i] (List.getElem_mem h)
    simp only [g_ref41_Parse_s1, atI_nat h, Option.bind_some, ref_finding_eq z[i] (by omega)]
    rw [if_pos (by simpa using h)]
    cases hf : (fdS z[i]).2 with
    | true =>
      left
      simp only [if_true]
      rw [if_pos (by simp; omega), hwr]
      refine ⟨_, rfl, ⟨i + 1, by omega, ?_, ?_, (by first | rfl | trivial)⟩, by simp; omega⟩
      · rw [List.take_succ_eq_append_getElem h, List.map_append]; rfl
      · rw [List.take_succ_eq_append_getElem h, List.all_append, hall]; simp [hf]
    | false =>
      right
      have hno : z.all (fun w => (fdS w).2) = false := by
        cases hl : z.all (fun w => (fdS w).2) with
        | false => rfl
        | true => have := List.all_eq_true.1 hl z[i] (List.getElem_mem h); rw [hf] at this; cases this
      simp [hno]
  · obtain rfl : i = z.length := by omega
    right
    rw [List.take_length] at hall ⊢
    simp [g_ref41_Parse_s1, hall]
theorem ref_Parse_eq (s : List UInt8) (hs : s.length ≤ 1700) : g_ref41_Parse s = some (match parseL (spB 10 s) with | some l => (l, 0) | none => ([], 4)) := by
  unfold g_ref41_Parse
  have hwd := words_eq s 10 (by omega)
  have e10 : (((10 : UInt8).toNat : Nat) : Int) = 10 := rfl
  rw [e10] at hwd
  rw [hwd]
  have hne := spB_ne 10 s
  have hlen := spB_length 10 s
  have hle := spB_le 10 s
  rw [parseL_all _ hne]
  generalize spB 10 s = ps at *
  have hpos : 1 ≤ ps.length := by cases ps with
    | nil => exact absurd rfl hne
    | cons a l => simp
  have hwr : IntKind.i64.wrap ((ps.length : Int) - 1) = ((ps.length - 1 : Nat) : Int) := by rw [wrap_i64 ((ps.length : Int) - 1) (by omega) (by omega)]; omega
  have hat : atI ps ((ps.length - 1 : Nat) : Int) = some (ps.getLast hne) := by
    rw [atI_nat (by omega), List.getLast_eq_getElem]
  simp only [Option.bind_some, hwr, hat]
  by_cases h1 : ps.getLast hne = []
  · rw [if_pos (by simp [h1]), if_pos h1]
    have hsub : subH ps ((ps.length - 1 : Nat) : Int) = some ps.dropLast := by
      unfold subH
      rw [if_pos ⟨by omega, by simp⟩]
      simp [List.dropLast_eq_take]
    rw [hsub]
    simp only [Option.bind_some]
    rw [ref_Parse_loop ps.dropLast (by simp; omega) (fun w hw => by have := hle w (List.dropLast_subset _ hw); omega)]
    simp only [Option.bind_some]
    by_cases h2 : ps.dropLast.all (fun w => (fdS w).2) = true
    · rw [if_pos h2, if_pos h2]
    · rw [if_neg h2, if_neg h2]
  · rw [if_neg (by simp [h1]), if_neg h1]
/-- Equal lists are found equal. -/
theorem Equal_refl (l : List T_api_Finding) (hl : l.length ≤ 100000) : g_slices_Equal_api_Finding_api_Finding l l = some true := by
  unfold g_slices_Equal_api_Finding_api_Finding
  rw [if_neg (by simp)]
  obtain ⟨e, h1, h2⟩ := iter_cnt (step := g_slices_Equal_api_Finding_api_Finding_s1 l l) l.length (by omega) (fun _ => True) (fun e => e = .inr ()) trivial (fun i hi _ => by
    have hw := wrap_i64 ((i : Int) + 1) (by omega) (by omega)
    left
    simp only [g_slices_Equal_api_Finding_api_Finding_s1, atI_nat hi, Option.bind_some, hw]
    rw [if_pos (by simpa using hi)]
    simp) (fun _ => ⟨.inr (), by simp [g_slices_Equal_api_Finding_api_Finding_s1], rfl⟩)
  rw [h1, h2]
  rfl
theorem awake41 : g_law41_awake = some true := by decide +kernel
theorem plain_itoa' {n : Int} : (32 : UInt8) ∉ Lib.itoa n ∧ (10 : UInt8) ∉ Lib.itoa n := by
  rcases (by omega : n < 0 ∨ 0 ≤ n) with h | h
  · have e : Lib.itoa n = 45 :: Lib.decDigits n.natAbs := by unfold Lib.itoa; rw [if_pos h]
    have hp := plain_itoa (n := ((n.natAbs : Nat) : Int)) (by omega)
    rw [Lib.itoa_nonneg] at hp
    rw [e]
    refine ⟨fun hm => ?_, fun hm => ?_⟩
    · rcases List.mem_cons.1 hm with h0 | h0
      · revert h0; decide
      · exact plain_no32 hp h0
    · rcases List.mem_cons.1 hm with h0 | h0
      · revert h0; decide
      · exact plain_no10 hp _ h0 (by decide)
  · have hp := plain_itoa h
    exact ⟨plain_no32 hp, fun hm => plain_no10 hp _ hm (by decide)⟩
theorem lineW_no {f : T_api_Finding} (hr : rOK f = true) : ∀ w ∈ lineW f, (32 : UInt8) ∉ w ∧ (10 : UInt8) ∉ w := by
  have hn := (nmR_ok (of_decide_eq_true hr)).1
  intro w hw
  simp only [lineW, List.mem_cons, List.not_mem_nil, or_false] at hw
  rcases hw with rfl | rfl | rfl | rfl
  · exact ⟨plain_no32 hn, fun hm => plain_no10 hn _ hm (by decide)⟩
  · exact plain_itoa'
  · exact plain_itoa'
  · exact plain_itoa'
theorem lineT_no10 {f : T_api_Finding} (hr : rOK f = true) : (10 : UInt8) ∉ lineT f := by
  have h := lineW_no hr
  unfold lineT
  have h1 := h (nmR f.Rule) (by simp [lineW])
  have h2 := h (Lib.itoa f.ID) (by simp [lineW])
  have h3 := h (Lib.itoa f.Other) (by simp [lineW])
  have h4 := h (Lib.itoa f.Amount) (by simp [lineW])
  unfold lineW
  rw [Lib.join_cons]
  simp only [Lib.joinTail, List.map_cons, List.map_nil, List.flatten_cons, List.flatten_nil, List.mem_append, List.mem_cons, List.not_mem_nil, or_false, List.singleton_append]
  rintro (h | (h | h) | (h | h) | (h | h))
  · exact h1.2 h
  · revert h; decide
  · exact h2.2 h
  · revert h; decide
  · exact h3.2 h
  · revert h; decide
  · exact h4.2 h
theorem fdS_lineT {f : T_api_Finding} (hz : fOK f) (hr : rOK f = true) : fdS (lineT f) = (f, true) := by
  have hr' := of_decide_eq_true hr
  unfold fdS lineT
  rw [spB_join 32 (lineW f) (by simp [lineW]) (fun w hw => (lineW_no hr w hw).1)]
  have e1 := numS_in f.ID loN hiN hz.1.1 hz.1.2 hz.1.1 hz.1.2
  have e2 := numS_in f.Other loN hiN hz.2.1.1 hz.2.1.2 hz.2.1.1 hz.2.1.2
  have e3 := numS_in f.Amount loN hiN hz.2.2.1 hz.2.2.2 hz.2.2.1 hz.2.2.2
  simp only [lineW, fd4, fdN, e1, e2, e3, if_true, ruleOf_nmR hr']
  simp; omega
theorem parseL_ftext : ∀ (l : List T_api_Finding), (∀ f ∈ l, fOK f) → l.all rOK = true → parseL (spB 10 (ftext l)) = some l
  | [], _, _ => by simp [ftext, spB, parseL]
  | f :: l, hz, hr => by
    simp only [List.all_cons, Bool.and_eq_true] at hr
    have ih := parseL_ftext l (fun x hx => hz x (by simp [hx])) hr.2
    have e : ftext (f :: l) = lineT f ++ 10 :: ftext l := by simp [ftext]
    rw [e, spB_app 10 _ _ (lineT_no10 hr.1)]
    cases hp : spB 10 (ftext l) with
    | nil => exact absurd hp (spB_ne _ _)
    | cons v r =>
      rw [hp] at ih
      simp only [parseL, fdS_lineT (hz f (by simp)) hr.1, if_true, ih]
theorem numS_rng {s : List UInt8} {lo hi n : Int} (h : numS s lo hi = (n, 0)) : lo ≤ n ∧ n ≤ hi := by
  unfold numS at h
  split at h
  · simp at h
  · split at h
    · simp at h
    · rename_i hc
      injection h with h _
      omega
theorem fdS_back {w : List UInt8} (h : (fdS w).2 = true) : fOK (fdS w).1 ∧ rOK (fdS w).1 = true ∧ lineT (fdS w).1 = w := by
  have hj := join_spB 32 w
  unfold fdS at h ⊢
  generalize spB 32 w = ws at *
  match ws, h, hj with
  | [a, b, c, d], h, hj =>
    simp only [fd4, fdN] at h ⊢
    by_cases h1 : (numS b loN hiN).2 = 0
    · by_cases h2 : (numS c loN hiN).2 = 0
      · by_cases h3 : (numS d loN hiN).2 = 0
        · rw [if_pos h1, if_pos h2, if_pos h3] at h ⊢
          simp only [bne_iff_ne, ne_eq] at h
          obtain ⟨k1, k2⟩ := ruleOf_some h
          have c1 : numS b loN hiN = ((numS b loN hiN).1, 0) := Prod.ext rfl h1
          have c2 : numS c loN hiN = ((numS c loN hiN).1, 0) := Prod.ext rfl h2
          have c3 : numS d loN hiN = ((numS d loN hiN).1, 0) := Prod.ext rfl h3
          refine ⟨⟨numS_rng c1, numS_rng c2, numS_rng c3⟩, by simp [rOK, k1], ?_⟩
          simp only [lineT, lineW, k2, numS_canon c1, numS_canon c2, numS_canon c3]
          exact hj
        · rw [if_pos h1, if_pos h2, if_neg h3] at h; simp at h
      · rw [if_pos h1, if_neg h2] at h; simp at h
    · rw [if_neg h1] at h; simp at h
  | [], h, _ => simp at h
  | [_], h, _ => simp at h
  | [_, _], h, _ => simp at h
  | [_, _, _], h, _ => simp at h
  | _ :: _ :: _ :: _ :: _ :: _, h, _ => simp at h
theorem parseL_back : ∀ (ps : List (List UInt8)) (l : List T_api_Finding), parseL ps = some l → (∀ f ∈ l, fOK f) ∧ l.all rOK = true ∧ ftext l = Lib.join ps [10] ∧ l.length + 1 = ps.length
  | [], l, h => by simp [parseL] at h
  | [w], l, h => by
    simp only [parseL] at h
    split at h
    · rename_i hw; injection h with h; subst h hw; simp [ftext, Lib.join_one]
    · simp at h
  | w :: v :: r, l, h => by
    simp only [parseL] at h
    split at h
    · rename_i hf
      cases hp : parseL (v :: r) with
      | none => rw [hp] at h; simp at h
      | some l' =>
        rw [hp] at h
        injection h with h
        subst h
        obtain ⟨i1, i2, i3, i4⟩ := parseL_back (v :: r) l' hp
        obtain ⟨b1, b2, b3⟩ := fdS_back hf
        refine ⟨fun f hf' => ?_, by simp only [List.all_cons, b2, i2, Bool.and_self], ?_, by simp only [List.length_cons] at i4 ⊢; omega⟩
        · rcases List.mem_cons.1 hf' with rfl | hf'
          · exact b1
          · exact i1 f hf'
        · have e : ftext ((fdS w).1 :: l') = lineT (fdS w).1 ++ 10 :: ftext l' := by simp [ftext]
          rw [e, b3, i3, Lib.join_cons w (v :: r), Lib.join_cons v r]
          simp [Lib.joinTail]
    · simp at h
theorem rules_Parse_eq' (z : List T_api_Finding) (hz : ∀ f ∈ z, fOK f) (hr : z.all rOK = true) (hl : (ftext z).length ≤ 1700) : g_rules_Parse (ftext z) = some (z, 0) := by
  rw [rules_Parse_eq _ hl, parseL_ftext z hz hr]
theorem RulesTexts_true (l : List T_api_Finding) (hl : l.length ≤ 9223372036854775807) (hz : ∀ f ∈ l, fOK f) : g_law41_RulesTexts l = some true := by
  have hsub : subH l (if 16 < (l.length : Int) then 16 else (l.length : Int)) = some (l.take 16) := by
    unfold subH
    split
    · rename_i h
      rw [if_pos ⟨by omega, by simp; omega⟩]
      simp
    · rename_i h
      rw [if_pos ⟨by omega, by simp⟩]
      simp
      rw [List.take_of_length_le (by omega)]
  have hz' : ∀ f ∈ l.take 16, fOK f := fun f hf => hz f (List.mem_of_mem_take hf)
  have hl' : (l.take 16).length ≤ 16 := by rw [List.length_take]; omega
  unfold g_law41_RulesTexts
  rw [awake41]
  simp only [Option.bind_some, if_true, hsub]
  rw [rules_Text_eq _ (by omega) hz', ref_Text_eq _ (by omega) hz']
  generalize l.take 16 = z at *
  by_cases hr : z.all rOK = true
  · have hft := ftext_len z hz' hr
    simp only [hr, if_true, Option.bind_some, beq_self_eq_true, bne_self_eq_false, Bool.false_eq_true, if_false]
    rw [rules_Parse_eq' z hz' hr (by omega)]
    simp only [Option.bind_some, beq_self_eq_true, if_true]
    rw [Equal_refl z (by omega)]
    rfl
  · simp [hr]
theorem RulesParses_true (s : List UInt8) (hs : s.length ≤ 9223372036854775807) : g_law41_RulesParses s = some true := by
  have hsub : subH s (if 300 < (s.length : Int) then 300 else (s.length : Int)) = some (s.take 300) := by
    unfold subH
    split
    · rename_i h
      rw [if_pos ⟨by omega, by simp; omega⟩]
      simp
    · rename_i h
      rw [if_pos ⟨by omega, by simp⟩]
      simp
      rw [List.take_of_length_le (by omega)]
  have hl' : (s.take 300).length ≤ 300 := by rw [List.length_take]; omega
  unfold g_law41_RulesParses
  rw [awake41]
  simp only [Option.bind_some, if_true, hsub]
  generalize s.take 300 = z at *
  rw [rules_Parse_eq z (by omega), ref_Parse_eq z (by omega)]
  simp only [Option.bind_some]
  have hlen := spB_length 10 z
  cases hp : parseL (spB 10 z) with
  | none =>
    simp only
    rw [Equal_refl [] (by simp)]
    simp
  | some l =>
    obtain ⟨h1, h2, h3, h4⟩ := parseL_back _ l hp
    simp only
    rw [Equal_refl l (by omega)]
    simp only [Option.bind_some, if_true, bne_self_eq_false, Bool.false_eq_true, if_false]
    rw [rules_Text_eq l (by omega) h1, if_pos h2]
    simp only [Option.bind_some, beq_self_eq_true, if_true]
    rw [h3, join_spB]
    simp
end Go.Proofs.YtipdmcpmedmicaaDoor
