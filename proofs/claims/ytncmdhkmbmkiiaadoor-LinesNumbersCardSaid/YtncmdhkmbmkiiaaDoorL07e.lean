/- Layer 07, plain: numbers. -/
import Derived.Test.YtncmdhkmbmkiiaaDoorL07d
import Derived.Test.YtncmdhkmbmkiiaaDoorNm
import Derived.Lib.ItoaMem
set_option linter.unusedSimpArgs false
set_option linter.unusedVariables false
namespace Go.Proofs.YtncmdhkmbmkiiaaDoor
set_option maxRecDepth 100000

def isDg (b : UInt8) : Bool := decide (48 ≤ b.toNat) && decide (b.toNat ≤ 57)
def numV (acc : Nat) (l : List UInt8) : Nat := l.foldl (fun a c => a * 10 + (c.toNat - 48)) acc
def numN (s : List UInt8) : Bool := s.head?.any (fun b => b.toNat == 45)
def numD (s : List UInt8) : List UInt8 := if numN s then s.drop 1 else s
def numBad (s : List UInt8) : Bool := match numD s with
  | [] => true
  | b :: t => (b.toNat == 48 && (decide (1 < (b :: t).length) || numN s)) || !((b :: t).all isDg)
def numVal (s : List UInt8) : Int := if numN s then -(numV 0 (numD s) : Int) else (numV 0 (numD s) : Int)
/-- What Number answers. -/
def numS (s : List UInt8) (lo hi : Int) : Int × Int := if numBad s then (0, 4) else if numVal s < -9223372036854775808 ∨ 9223372036854775807 < numVal s ∨ numVal s < lo ∨ hi < numVal s then (0, 2) else (numVal s, 0)
theorem numV_cons (acc : Nat) (c : UInt8) (r : List UInt8) : numV acc (c :: r) = numV (acc * 10 + (c.toNat - 48)) r := by unfold numV; rw [List.foldl_cons]
theorem numV_ge (l : List UInt8) : ∀ (acc : Nat), acc * 10 ^ l.length ≤ numV acc l := by
  induction l with
  | nil => intro acc; unfold numV; simp
  | cons c r ih =>
    intro acc
    rw [numV_cons, List.length_cons, Nat.pow_succ, Nat.mul_comm (10 ^ r.length) 10, ← Nat.mul_assoc]
    exact Nat.le_trans (Nat.mul_le_mul_right _ (Nat.le_add_right _ _)) (ih _)
theorem numV_le (l : List UInt8) : ∀ (acc : Nat), (∀ b ∈ l, isDg b = true) → numV acc l < (acc + 1) * 10 ^ l.length := by
  induction l with
  | nil => intro acc _; unfold numV; simp
  | cons c r ih =>
    intro acc h
    have hc := h c (by simp)
    simp only [isDg, Bool.and_eq_true, decide_eq_true_eq] at hc
    rw [numV_cons, List.length_cons, Nat.pow_succ, Nat.mul_comm (10 ^ r.length) 10, ← Nat.mul_assoc]
    exact Nat.lt_of_lt_of_le (ih _ (fun b hb => h b (by simp [hb]))) (Nat.mul_le_mul_right _ (by omega))
theorem parseM (l : List UInt8) : ∀ (acc : Nat), (∀ b ∈ l, isDg b = true) → acc ≤ 18446744073709551615 → Lib.parseUintM 18446744073709551615 acc l = if numV acc l ≤ 18446744073709551615 then .ok (numV acc l) else .range := by
  induction l with
  | nil => intro acc _ h; simp [Lib.parseUintM, numV, h]
  | cons c r ih =>
    intro acc hd h
    have hc := hd c (by simp)
    simp only [isDg, Bool.and_eq_true, decide_eq_true_eq] at hc
    have hge := numV_ge r (acc * 10 + (c.toNat - 48))
    have hp : 1 ≤ 10 ^ r.length := Nat.one_le_pow _ _ (by omega)
    have hge2 : acc * 10 + (c.toNat - 48) ≤ numV (acc * 10 + (c.toNat - 48)) r := Nat.le_trans (Nat.le_mul_of_pos_right _ hp) hge
    rw [numV_cons, Lib.parseUintM, if_pos hc]
    by_cases h1 : 1844674407370955162 ≤ acc
    · rw [if_pos h1, if_neg (by omega)]
    · rw [if_neg h1]
      by_cases h2 : 18446744073709551615 < acc * 10 + (c.toNat - 48)
      · rw [if_pos h2, if_neg (by omega)]
      · rw [if_neg h2]
        exact ih _ (fun b hb => hd b (by simp [hb])) (by omega)
theorem u8_45 (b : UInt8) : (b == 45) = (b.toNat == 45) := by
  rw [Bool.eq_iff_iff]
  simp only [beq_iff_eq]
  exact ⟨fun h => by rw [h]; rfl, fun h => UInt8.toNat_inj.1 h⟩
theorem cut_eq (s : List UInt8) : g_strings_CutPrefix s [45] = some (numD s, numN s) := by
  simp only [g_strings_CutPrefix, Lib.trimPrefix, Lib.hasPrefix, numD, numN]
  cases s with
  | nil => rfl
  | cons b t =>
    have : ([45] : List UInt8).isPrefixOf (b :: t) = (b.toNat == 45) := by
      simp only [List.isPrefixOf, Bool.and_true]
      rw [← u8_45]
      rw [Bool.eq_iff_iff]; simp only [beq_iff_eq]; exact eq_comm
    simp only [this, List.head?_cons, Option.any_some, List.length_cons, List.length_nil, Nat.zero_add]
    first | done | rfl
theorem digs_loop (d : List UInt8) (hd : d.length ≤ 9223372036854775806) (b : Bool) : ∃ e, iter (g_lines_Number_s1 (d, b)) 0 = some e ∧ (e = .inr () ↔ d.all isDg = true) := by
  have := iter_cnt (step := g_lines_Number_s1 (d, b)) d.length (by omega) (fun n => ∀ i (h : i < d.length), i < n → isDg d[i] = true) (fun e => (e = .inr () ↔ ∀ i (h : i < d.length), isDg d[i] = true)) (by intro i _ h; omega) ?_ ?_
  · obtain ⟨e, he, h⟩ := this
    refine ⟨e, he, h.trans ?_⟩
    rw [List.all_eq_true]
    exact ⟨fun h x hx => by obtain ⟨i, hi, rfl⟩ := List.getElem_of_mem hx; exact h i hi, fun h i hi => h _ (List.getElem_mem hi)⟩
  · intro i hi hI
    have hw := wrap_i64 ((i : Int) + 1) (by omega) (by omega)
    have hcnd : decide ((i : Int) < (d.length : Int)) = true := by simpa using hi
    simp only [g_lines_Number_s1, hcnd, if_true, atI_nat hi, Option.bind_some, hw]
    by_cases h1 : d[i].toNat < 48
    · right
      refine ⟨.inl (), by have : decide ((d[i].toNat : Int) < 48) = true := by simp; omega
                          simp [this], ?_⟩
      simp only [reduceCtorEq, false_iff]
      intro h; have := h i hi; simp only [isDg, Bool.and_eq_true, decide_eq_true_eq] at this; omega
    · have e1 : decide ((d[i].toNat : Int) < 48) = false := by simp; omega
      by_cases h2 : 57 < d[i].toNat
      · right
        refine ⟨.inl (), by have : decide (57 < (d[i].toNat : Int)) = true := by simp; omega
                            simp [e1, this], ?_⟩
        simp only [reduceCtorEq, false_iff]
        intro h; have := h i hi; simp only [isDg, Bool.and_eq_true, decide_eq_true_eq] at this; omega
      · left
        have e2 : decide (57 < (d[i].toNat : Int)) = false := by simp; omega
        refine ⟨by simp [e1, e2], fun j hj hlt => ?_⟩
        by_cases hji : j = i
        · subst hji; simp only [isDg, Bool.and_eq_true, decide_eq_true_eq]; omega
        · exact hI j hj (by omega)
  · intro hI
    refine ⟨.inr (), by simp [g_lines_Number_s1], ?_⟩
    simp only [true_iff]
    exact fun i h => hI i h h
theorem parse_eq (s : List UInt8) (h : numBad s = false) : Lib.parseIntB 64 s = if numVal s < -9223372036854775808 ∨ 9223372036854775807 < numVal s then .range else .ok (numVal s) := by
  have hD : ∃ b t, numD s = b :: t ∧ (b :: t).all isDg = true := by
    unfold numBad at h
    cases hd : numD s with
    | nil => rw [hd] at h; simp at h
    | cons b t => rw [hd] at h; simp only [Bool.or_eq_false_iff, Bool.not_eq_false'] at h; exact ⟨b, t, rfl, h.2⟩
  obtain ⟨b, t, hd, ha⟩ := hD
  have hall : ∀ x ∈ numD s, isDg x = true := by rw [hd]; exact List.all_eq_true.1 ha
  have hb := hall b (by rw [hd]; simp)
  simp only [isDg, Bool.and_eq_true, decide_eq_true_eq] at hb
  have hpu : Lib.parseUintB 64 (numD s) = if numV 0 (numD s) ≤ 18446744073709551615 then .ok (numV 0 (numD s)) else .range := by
    unfold Lib.parseUintB
    rw [if_neg (by rw [hd]; simp)]
    exact parseM _ 0 hall (by omega)
  cases s with
  | nil => simp [numD, numN] at hd
  | cons c r =>
    unfold Lib.parseIntB
    have hN : numN (c :: r) = (c.toNat == 45) := rfl
    by_cases h45 : c.toNat = 45
    · have hn : numN (c :: r) = true := by rw [hN]; simp [h45]
      have hD2 : numD (c :: r) = r := by simp [numD, hn]
      have hv : numVal (c :: r) = -(numV 0 r : Int) := by simp [numVal, hn, hD2]
      rw [hD2] at hpu
      simp only [h45, or_true, if_true, hpu, hv, not_true_eq_false, false_and, if_false, true_and]
      by_cases h1 : numV 0 r ≤ 18446744073709551615
      · rw [if_pos h1]
        simp only
        by_cases h2 : 2 ^ (64 - 1) < numV 0 r
        · rw [if_pos h2, if_pos (by left; simp at h2; omega)]
        · rw [if_neg h2, if_neg (by simp at h2; omega)]
      · rw [if_neg h1, if_pos (by left; omega)]
    · have hn : numN (c :: r) = false := by rw [hN]; simp [h45]
      have hD2 : numD (c :: r) = c :: r := by simp [numD, hn]
      have hv : numVal (c :: r) = (numV 0 (c :: r) : Int) := by simp [numVal, hn, hD2]
      have hcb : c = b := by rw [hD2] at hd; injection hd
      subst hcb
      have h43 : ¬ (c.toNat = 43 ∨ c.toNat = 45) := by omega
      rw [hD2] at hpu
      dsimp only
      rw [if_neg h43]
      simp only [hpu, hv, h45, not_false_eq_true, true_and, false_and, if_false]
      by_cases h1 : numV 0 (c :: r) ≤ 18446744073709551615
      · rw [if_pos h1]
        simp only
        by_cases h2 : 2 ^ (64 - 1) ≤ numV 0 (c :: r)
        · rw [if_pos h2, if_pos (by right; simp at h2; omega)]
        · rw [if_neg h2, if_neg (by simp at h2; omega)]
      · rw [if_neg h1, if_pos (by right; omega)]
theorem lines_Number_eq (s : List UInt8) (lo hi : Int) (hs : s.length ≤ 281474976710656) : g_lines_Number s lo hi = some (numS s lo hi) := by
  have hDl : (numD s).length ≤ s.length := by unfold numD; split <;> simp
  obtain ⟨e, he, hiff⟩ := digs_loop (numD s) (by omega) (numN s)
  simp only [g_lines_Number, cut_eq, Option.bind_some, he]
  unfold numS
  cases hbad : numBad s with
  | true =>
    simp only [if_true]
    unfold numBad at hbad
    cases hd : numD s with
    | nil => simp
    | cons b t =>
      rw [hd] at hbad hiff
      have e0 : ((b :: t) == ([] : List UInt8)) = false := rfl
      have e1 : atI (b :: t) 0 = some b := rfl
      simp only [e0, Bool.false_eq_true, if_false, e1, Option.bind_some]
      by_cases c48 : b.toNat = 48
      · have e2 : ((b.toNat : Int) == 48) = true := by simp [c48]
        simp only [e2, if_true]
        by_cases c1 : 1 < (b :: t).length
        · have e3 : decide (1 < ((b :: t).length : Int)) = true := by simp only [decide_eq_true_eq]; omega
          simp only [e3, if_true, Option.bind_some]
        · have e3 : decide (1 < ((b :: t).length : Int)) = false := by simp only [decide_eq_false_iff_not]; omega
          cases hn : numN s with
          | true => simp only [e3, Bool.false_eq_true, if_false, Option.bind_some, if_true]
          | false =>
            simp only [e3, Bool.false_eq_true, if_false, Option.bind_some]
            have : ¬ e = .inr () := by
              rw [hiff]
              simp only [hn, c48, c1, decide_false, Bool.or_false, Bool.and_false, Bool.false_or, Bool.not_eq_true'] at hbad
              rw [hbad]; simp
            rcases e with e | e
            · simp
            · exact absurd rfl this
      · have e2 : ((b.toNat : Int) == 48) = false := by simp; omega
        have e3 : (b.toNat == 48) = false := by simpa using c48
        simp only [e2, Bool.false_eq_true, if_false, Option.bind_some]
        have : ¬ e = .inr () := by
          rw [hiff]
          simp only [e3, Bool.false_and, Bool.false_or, Bool.not_eq_true'] at hbad
          rw [hbad]; simp
        rcases e with e | e
        · simp
        · exact absurd rfl this
  | false =>
    have hp := parse_eq s hbad
    simp only [Bool.false_eq_true, if_false]
    unfold numBad at hbad
    cases hd : numD s with
    | nil => rw [hd] at hbad; simp at hbad
    | cons b t =>
      rw [hd] at hbad hiff
      simp only [Bool.or_eq_false_iff, Bool.not_eq_false'] at hbad
      have e0 : ((b :: t) == ([] : List UInt8)) = false := rfl
      have e1 : atI (b :: t) 0 = some b := rfl
      have hv : ((if (b :: t == ([] : List UInt8)) = true then some true
          else (atI (b :: t) 0).bind fun b18 => if ((b18.toNat : Int) == 48) = true then if decide (1 < ((b :: t).length : Int)) = true then some true else some (numN s) else some false) : Option Bool) = some false := by
        simp only [e0, Bool.false_eq_true, if_false, e1, Option.bind_some]
        by_cases c48 : b.toNat = 48
        · have e2 : ((b.toNat : Int) == 48) = true := by simp [c48]
          have := hbad.1
          simp only [c48, beq_self_eq_true, Bool.true_and, Bool.or_eq_false_iff, decide_eq_false_iff_not] at this
          have e3 : decide (1 < ((b :: t).length : Int)) = false := by simp only [decide_eq_false_iff_not]; omega
          simp only [e2, e3, if_true, Bool.false_eq_true, if_false, this.2]
        · have e2 : ((b.toNat : Int) == 48) = false := by simp; omega
          simp [e2]
      have hee : e = .inr () := hiff.2 hbad.2
      subst hee
      rw [hd] at *
      simp only [hv, Option.bind_some, Bool.false_eq_true, if_false, g_strconv_ParseInt, true_and, if_pos hs, hp]
      by_cases hr : numVal s < -9223372036854775808 ∨ 9223372036854775807 < numVal s
      · simp only [if_pos hr, Option.bind_some, if_true]
        rw [if_pos (by omega)]
      · have cd : numVal s < -9223372036854775808 ∨ 9223372036854775807 < numVal s ∨ numVal s < lo ∨ hi < numVal s ↔ numVal s < lo ∨ hi < numVal s := by omega
        simp only [if_neg hr, Option.bind_some, Bool.false_eq_true, if_false, cd]
        by_cases h1 : numVal s < lo
        · simp only [h1, decide_true, if_true, Option.bind_some, true_or]
        · by_cases h2 : hi < numVal s
          · simp only [h1, h2, decide_false, decide_true, Bool.false_eq_true, if_false, if_true, Option.bind_some, or_true]
          · simp only [h1, h2, decide_false, Bool.false_eq_true, if_false, Option.bind_some, or_self]
end Go.Proofs.YtncmdhkmbmkiiaaDoor
