/- Layer 07, plain: the reference's numbers, and decimals. -/
import Derived.Test.YtncmdhkmbmkiiaaDoorL07e
import Derived.Lib.ItoaLen
set_option linter.unusedSimpArgs false
set_option linter.unusedVariables false
namespace Go.Proofs.YtncmdhkmbmkiiaaDoor
set_option maxRecDepth 100000

theorem wrap_u64 (x : Int) (h : 0 ≤ x) (h' : x ≤ 18446744073709551615) : IntKind.u64.wrap x = x := by
  simp [IntKind.wrap, IntKind.bits, IntKind.signed]
  omega
theorem digit_dg (b : UInt8) : g_ref07_digit (b.toNat : Int) = some (isDg b) := by
  have h1 : decide (48 ≤ (b.toNat : Int)) = decide (48 ≤ b.toNat) := by simp only [decide_eq_decide]; omega
  have h2 : decide ((b.toNat : Int) ≤ 57) = decide (b.toNat ≤ 57) := by simp only [decide_eq_decide]; omega
  rw [digit_eq, h1, h2]; rfl
theorem rdigs_loop (d : List UInt8) (hd : d.length ≤ 9223372036854775806) : ∃ e, iter (g_ref07_Number_s1 d) 0 = some e ∧ (e = .inr () ↔ d.all isDg = true) := by
  have := iter_cnt (step := g_ref07_Number_s1 d) d.length (by omega) (fun n => ∀ i (h : i < d.length), i < n → isDg d[i] = true) (fun e => (e = .inr () ↔ ∀ i (h : i < d.length), isDg d[i] = true)) (by intro i _ h; omega) ?_ ?_
  · obtain ⟨e, he, h⟩ := this
    refine ⟨e, he, h.trans ?_⟩
    rw [List.all_eq_true]
    exact ⟨fun h x hx => by obtain ⟨i, hi, rfl⟩ := List.getElem_of_mem hx; exact h i hi, fun h i hi => h _ (List.getElem_mem hi)⟩
  · intro i hi hI
    have hw := wrap_i64 ((i : Int) + 1) (by omega) (by omega)
    have hcnd : decide ((i : Int) < (d.length : Int)) = true := by simpa using hi
    simp only [g_ref07_Number_s1, hcnd, if_true, atI_nat hi, Option.bind_some, hw, digit_dg]
    cases hdg : isDg d[i] with
    | false =>
      right
      refine ⟨.inl (), by simp, ?_⟩
      simp only [reduceCtorEq, false_iff]
      intro h; have := h i hi; rw [hdg] at this; cases this
    | true =>
      left
      refine ⟨by simp, fun j hj hlt => ?_⟩
      by_cases hji : j = i
      · subst hji; exact hdg
      · exact hI j hj (by omega)
  · intro hI
    refine ⟨.inr (), by simp [g_ref07_Number_s1], ?_⟩
    simp only [true_iff]
    exact fun i h => hI i h h
theorem racc_loop (d : List UInt8) (hall : ∀ b ∈ d, isDg b = true) (hl : d.length ≤ 19) : iter (g_ref07_Number_s2 d) (0, 0) = some (numV 0 d : Int) := by
  refine iter_of (fun x e => ∃ (i a : Nat), x.2 = (i : Int) ∧ i ≤ d.length ∧ x.1 = (a : Int) ∧ a < 10 ^ i ∧ numV a (d.drop i) = numV 0 d ∧ e = (numV 0 d : Int)) (fun x => d.length - x.2.toNat) ?_ (x := (0, 0)) ⟨0, 0, rfl, by omega, rfl, by simp, by simp, rfl⟩ (by show d.length - _ < _; omega)
  rintro ⟨u, z⟩ e ⟨i, a, hz, hi, hu, ha, hv, rfl⟩
  simp only at hz hu ⊢
  subst hz hu
  by_cases h : i < d.length
  · left
    have hb := hall d[i] (List.getElem_mem h)
    simp only [isDg, Bool.and_eq_true, decide_eq_true_eq] at hb
    have hp : 10 ^ i ≤ 10 ^ 18 := Nat.pow_le_pow_right (by omega) (by omega)
    have ha2 : a < 1000000000000000000 := Nat.lt_of_lt_of_le ha hp
    have w1 := wrap_i64 ((i : Int) + 1) (by omega) (by omega)
    have w2 := wrap_u64 (10 * (a : Int)) (by omega) (by omega)
    have w3 : IntKind.u8.wrap ((d[i].toNat : Int) - 48) = (d[i].toNat : Int) - 48 := wr8 (by omega)
    have w4 := wrap_u64 ((d[i].toNat : Int) - 48) (by omega) (by omega)
    have w5 := wrap_u64 (10 * (a : Int) + ((d[i].toNat : Int) - 48)) (by omega) (by omega)
    have hcnd : decide ((i : Int) < (d.length : Int)) = true := by simpa using h
    refine ⟨(10 * (a : Int) + ((d[i].toNat : Int) - 48), (i : Int) + 1), ?_, ⟨i + 1, a * 10 + (d[i].toNat - 48), by simp, by omega, by simp only; omega, ?_, ?_, by simp⟩, by simp; omega⟩
    · simp only [g_ref07_Number_s2, hcnd, if_true, atI_nat h, Option.bind_some, w1, w2, w3, w4, w5]
    · rw [Nat.pow_succ]; omega
    · rw [← hv, drop_cons h, numV_cons]
  · right
    obtain rfl : i = d.length := by omega
    rw [List.drop_length] at hv
    have hv : a = numV 0 d := hv
    subst hv
    simp [g_ref07_Number_s2]
theorem numV_big (b : UInt8) (t : List UInt8) (hb : b.toNat ≠ 48) (hd : isDg b = true) (hl : 19 < (b :: t).length) : 9223372036854775808 < numV 0 (b :: t) := by
  simp only [isDg, Bool.and_eq_true, decide_eq_true_eq] at hd
  have := numV_ge t (0 * 10 + (b.toNat - 48))
  rw [numV_cons]
  have hp : 10 ^ 19 ≤ 10 ^ t.length := Nat.pow_le_pow_right (by omega) (by simp at hl; omega)
  have h1 : 1 * 10 ^ t.length ≤ (0 * 10 + (b.toNat - 48)) * 10 ^ t.length := Nat.mul_le_mul_right _ (by omega)
  omega
def dBad (neg : Bool) : List UInt8 → Bool
  | [] => true
  | b :: t => b.toNat == 48 && (decide (1 < (b :: t).length) || neg)
theorem ref_tail (d : List UInt8) (neg : Bool) :
    (((if ((d.length : Int) == 0) = true then (some true) else ((atI d 0).bind fun b33 => (if ((b33.toNat : Int) == 48) = true then (if decide (1 < (d.length : Int)) = true then (some true) else (some neg)) else (some false)))) : Option Bool)) = some (dBad neg d) := by
  cases d with
  | nil => rfl
  | cons b t =>
    have e0 : (((b :: t).length : Int) == 0) = false := by simp; omega
    have e1 : atI (b :: t) 0 = some b := rfl
    simp only [e0, Bool.false_eq_true, if_false, e1, Option.bind_some, dBad]
    have e2 : ((b.toNat : Int) == 48) = (b.toNat == 48) := by rw [Bool.eq_iff_iff]; simp; omega
    have e3 : decide (1 < ((b :: t).length : Int)) = decide (1 < (b :: t).length) := by simp only [decide_eq_decide]; omega
    rw [e2, e3]
    cases (b.toNat == 48) <;> cases decide (1 < (b :: t).length) <;> rfl
theorem numBad_eq (s : List UInt8) : numBad s = (dBad (numN s) (numD s) || !((numD s).all isDg)) := by
  unfold numBad dBad
  cases numD s <;> rfl
theorem dBad_false {neg : Bool} {d : List UInt8} (h : dBad neg d = false) : ∃ b t, d = b :: t ∧ (b.toNat = 48 → d.length ≤ 1 ∧ neg = false) := by
  cases d with
  | nil => cases h
  | cons b t =>
    refine ⟨b, t, rfl, fun h48 => ?_⟩
    simp only [dBad, h48, beq_self_eq_true, Bool.true_and, Bool.or_eq_false_iff, decide_eq_false_iff_not] at h
    exact ⟨by omega, h.2⟩
theorem ref_Number_eq (s : List UInt8) (lo hi : Int) (hs : s.length ≤ 9223372036854775806) : g_ref07_Number s lo hi = some (numS s lo hi) := by
  have hv9 : (((if (decide (0 < (s.length : Int))) then ((atI s 0).bind fun b12 => (some ((b12.toNat : Int) == 45))) else (some false)) : Option (Bool))) = some (numN s) := by
    cases s with
    | nil => rfl
    | cons b t =>
      have e0 : decide (0 < ((b :: t).length : Int)) = true := by simp only [decide_eq_true_eq, List.length_cons]; omega
      have e1 : atI (b :: t) 0 = some b := rfl
      have e2 : ((b.toNat : Int) == 45) = (b.toNat == 45) := by rw [Bool.eq_iff_iff]; simp; omega
      simp only [e0, if_true, e1, Option.bind_some, e2]; rfl
  have hDl : (numD s).length ≤ s.length := by unfold numD; split <;> simp
  obtain ⟨e, he, hiff⟩ := rdigs_loop (numD s) (by omega)
  have he3 : iter (g_ref07_Number_s3 (numD s)) 0 = some e := he
  have htail := ref_tail (numD s) (numN s)
  have hacc := racc_loop (numD s)
  have hacc4 : (∀ b ∈ numD s, isDg b = true) → (numD s).length ≤ 19 → iter (g_ref07_Number_s4 (numD s)) (0, 0) = some (numV 0 (numD s) : Int) := racc_loop (numD s)
  have hbad := numBad_eq s
  simp only [g_ref07_Number, hv9, Option.bind_some]
  unfold numS numVal
  cases hn : numN s with
  | true =>
    have hD : numD s = s.drop 1 := by simp [numD, hn]
    have hl1 : 1 ≤ s.length := by cases s with | nil => simp [numN] at hn | cons b t => simp
    have hsub : subL s 1 = some (numD s) := by rw [hD]; exact subL_nat (i := 1) hl1
    rw [hn] at htail hbad
    simp only [if_true, hsub, Option.bind_some, htail, he, hbad]
    generalize numD s = d at *
    cases hc : dBad true d with
    | true => simp
    | false =>
      obtain ⟨b, t, rfl, h48⟩ := dBad_false hc
      have hb48 : b.toNat ≠ 48 := fun h => by have := (h48 h).2; cases this
      simp only [Bool.false_or, Bool.false_eq_true, if_false]
      cases hall : (b :: t).all isDg with
      | false =>
        have : ¬ e = .inr () := by rw [hiff, hall]; simp
        rcases e with e | e
        · simp
        · exact absurd rfl this
      | true =>
        obtain rfl := hiff.2 hall
        have hal := List.all_eq_true.1 hall
        simp only [Bool.not_true, Bool.false_eq_true, if_false]
        by_cases hbig : 19 < (b :: t).length
        · have e4 : decide (19 < ((b :: t).length : Int)) = true := by simp only [decide_eq_true_eq]; omega
          have := numV_big b t hb48 (hal b (by simp)) hbig
          simp only [e4, if_true]
          rw [if_pos (by omega)]
        · have e4 : decide (19 < ((b :: t).length : Int)) = false := by simp only [decide_eq_false_iff_not]; omega
          have hle := numV_le (b :: t) 0 hal
          have hp : 10 ^ (b :: t).length ≤ 10 ^ 19 := Nat.pow_le_pow_right (by omega) (by omega)
          simp only [e4, Bool.false_eq_true, if_false, hacc hal (by omega), Option.bind_some]
          generalize numV 0 (b :: t) = v at *
          by_cases h1 : 9223372036854775808 < v
          · have e5 : decide (9223372036854775808 < (v : Int)) = true := by simp only [decide_eq_true_eq]; omega
            simp only [e5, if_true, Option.bind_some]
            rw [if_pos (by omega)]
          · have e5 : decide (9223372036854775808 < (v : Int)) = false := by simp only [decide_eq_false_iff_not]; omega
            have hw : IntKind.i64.wrap (0 - IntKind.i64.wrap (v : Int)) = -(v : Int) := by
              by_cases h2 : v = 9223372036854775808
              · subst h2; rfl
              · rw [wrap_i64 (v : Int) (by omega) (by omega), wrap_i64 (0 - (v : Int)) (by omega) (by omega)]; omega
            simp only [e5, Bool.false_eq_true, if_false, Option.bind_some, hw]
            have cd : -(v : Int) < -9223372036854775808 ∨ 9223372036854775807 < -(v : Int) ∨ -(v : Int) < lo ∨ hi < -(v : Int) ↔ -(v : Int) < lo ∨ hi < -(v : Int) := by omega
            simp only [cd]
            by_cases h3 : -(v : Int) < lo
            · simp only [h3, decide_true, if_true, true_or]
            · by_cases h4 : hi < -(v : Int)
              · simp only [h3, h4, decide_false, decide_true, Bool.false_eq_true, if_false, if_true, or_true]
              · simp only [h3, h4, decide_false, Bool.false_eq_true, if_false, or_self]
  | false =>
    have hD : numD s = s := by simp [numD, hn]
    rw [hn] at htail hbad
    rw [hD] at he3 hacc4 hiff htail hbad
    simp only [Bool.false_eq_true, if_false, htail, Option.bind_some, he3, hD, hbad]
    clear hv9 he hacc hDl hbad htail hD hn
    cases hc : dBad false s with
    | true => simp
    | false =>
      obtain ⟨b, t, rfl, h48⟩ := dBad_false hc
      simp only [Bool.false_or, Bool.false_eq_true, if_false]
      cases hall : (b :: t).all isDg with
      | false =>
        have : ¬ e = .inr () := by rw [hiff, hall]; simp
        rcases e with e | e
        · simp
        · exact absurd rfl this
      | true =>
        obtain rfl := hiff.2 hall
        have hal := List.all_eq_true.1 hall
        simp only [Bool.not_true, Bool.false_eq_true, if_false]
        by_cases hbig : 19 < (b :: t).length
        · have hb48 : b.toNat ≠ 48 := fun h => by have := (h48 h).1; omega
          have e4 : decide (19 < ((b :: t).length : Int)) = true := by simp only [decide_eq_true_eq]; omega
          have := numV_big b t hb48 (hal b (by simp)) hbig
          simp only [e4, if_true]
          rw [if_pos (by omega)]
        · have e4 : decide (19 < ((b :: t).length : Int)) = false := by simp only [decide_eq_false_iff_not]; omega
          have hle := numV_le (b :: t) 0 hal
          have hp : 10 ^ (b :: t).length ≤ 10 ^ 19 := Nat.pow_le_pow_right (by omega) (by omega)
          simp only [e4, Bool.false_eq_true, if_false, hacc4 hal (by omega), Option.bind_some]
          generalize numV 0 (b :: t) = v at *
          by_cases h1 : 9223372036854775808 < v
          · have e5 : decide (9223372036854775808 < (v : Int)) = true := by simp only [decide_eq_true_eq]; omega
            simp only [e5, if_true, Option.bind_some]
            rw [if_pos (by omega)]
          · have e5 : decide (9223372036854775808 < (v : Int)) = false := by simp only [decide_eq_false_iff_not]; omega
            by_cases h2 : v = 9223372036854775808
            · have e6 : ((v : Int) == 9223372036854775808) = true := by simp; omega
              simp only [e5, e6, Bool.false_eq_true, if_false, if_true, Option.bind_some]
              rw [if_pos (by omega)]
            · have e6 : ((v : Int) == 9223372036854775808) = false := by simp; omega
              have hw : IntKind.i64.wrap (v : Int) = v := wrap_i64 (v : Int) (by omega) (by omega)
              simp only [e5, e6, Bool.false_eq_true, if_false, Option.bind_some, hw]
              have cd : (v : Int) < -9223372036854775808 ∨ 9223372036854775807 < (v : Int) ∨ (v : Int) < lo ∨ hi < (v : Int) ↔ (v : Int) < lo ∨ hi < (v : Int) := by omega
              simp only [cd]
              by_cases h3 : (v : Int) < lo
              · simp only [h3, decide_true, if_true, true_or]
              · by_cases h4 : hi < (v : Int)
                · simp only [h3, h4, decide_false, decide_true, Bool.false_eq_true, if_false, if_true, or_true]
                · simp only [h3, h4, decide_false, Bool.false_eq_true, if_false, or_self]
theorem decDigits_len (u : Nat) (hu : u ≤ 18446744073709551615) : (Lib.decDigits u).length ≤ 20 := by
  rw [Lib.decDigits_length]; exact Lib.nDigits_le20 u (by omega)
/-- Decimals. -/
theorem dig_sub (u : Nat) (h : u < 10) : subI ([48, 49, 50, 51, 52, 53, 54, 55, 56, 57] : List UInt8) (u : Int) ((u : Int) + 1) = some [UInt8.ofNat (48 + u)] := by
  have := sub1 (s := ([48, 49, 50, 51, 52, 53, 54, 55, 56, 57] : List UInt8)) (i := u) (by simpa using h)
  rw [this]
  congr 2
  have key : ∀ v : Fin 10, ([48, 49, 50, 51, 52, 53, 54, 55, 56, 57] : List UInt8)[v.val] = UInt8.ofNat (48 + v.val) := by decide
  exact key ⟨u, h⟩
theorem dec_loop (u : Nat) (hu : u ≤ 18446744073709551615) : ∃ (v : Nat) (t : List UInt8), iter g_ref07_Decimal_s1 ((u : Int), []) = some ((v : Int), t) ∧ v < 10 ∧ t.length ≤ 30 ∧ UInt8.ofNat (48 + v) :: t = Lib.decDigits u := by
  have := iter_post (step := g_ref07_Decimal_s1) (fun x => ∃ (v : Nat), x.1 = (v : Int) ∧ v ≤ u ∧ v * 10 ^ x.2.length ≤ u ∧ Lib.decDigits v ++ x.2 = Lib.decDigits u) (fun x => x.1.toNat)
    (fun e => ∃ (v : Nat) (t : List UInt8), e = ((v : Int), t) ∧ v < 10 ∧ t.length ≤ 30 ∧ UInt8.ofNat (48 + v) :: t = Lib.decDigits u) (x := ((u : Int), [])) ⟨u, rfl, Nat.le_refl _, by simp, by simp⟩ (by show (u : Int).toNat < _; omega) ?_
  · obtain ⟨e, he, v, t, rfl, h⟩ := this
    exact ⟨v, t, he, h⟩
  · rintro ⟨z, t⟩ ⟨v, hz, hvu, hpow, happ⟩
    simp only at hz hpow happ ⊢
    subst hz
    have ht : 1 ≤ v → t.length ≤ 19 := by
      intro hv
      rcases Nat.lt_or_ge t.length 20 with h | h
      · omega
      · exfalso
        have hp : 10 ^ 20 ≤ 10 ^ t.length := Nat.pow_le_pow_right (by omega) h
        have : 1 * 10 ^ t.length ≤ v * 10 ^ t.length := Nat.mul_le_mul_right _ hv
        omega
    by_cases h10 : 10 ≤ v
    · left
      have e1 : decide (10 ≤ (v : Int)) = true := by simp only [decide_eq_true_eq]; omega
      have hm : Int.tmod (v : Int) 10 = ((v % 10 : Nat) : Int) := by rw [Int.tmod_eq_emod_of_nonneg (by omega)]; omega
      have hq : Int.tdiv (v : Int) 10 = ((v / 10 : Nat) : Int) := by rw [Int.tdiv_eq_ediv_of_nonneg (by omega)]; omega
      have w1 := wrap_u64 (((v % 10 : Nat) : Int) + 1) (by omega) (by omega)
      have w2 := wrap_u64 ((v / 10 : Nat) : Int) (by omega) (by omega)
      have htl := ht (by omega)
      refine ⟨(((v / 10 : Nat) : Int), [UInt8.ofNat (48 + v % 10)] ++ t), ?_, ⟨v / 10, rfl, by omega, ?_, ?_⟩, by simp only [Int.toNat_natCast]; omega⟩
      · simp only [g_ref07_Decimal_s1, e1, if_true, hm, hq, w1, w2, dig_sub (v % 10) (by omega), Option.bind_some]
        rw [if_pos (by simp; omega)]
      · simp only [List.length_append, List.length_cons, List.length_nil, Nat.zero_add, Nat.pow_add, Nat.pow_one]
        have : v / 10 * 10 ≤ v := Nat.div_mul_le_self v 10
        calc v / 10 * (10 * 10 ^ t.length) = (v / 10 * 10) * 10 ^ t.length := by rw [Nat.mul_assoc]
          _ ≤ v * 10 ^ t.length := Nat.mul_le_mul_right _ this
          _ ≤ u := hpow
      · rw [← happ, ← List.append_assoc]
        congr 1
        conv => rhs; rw [Lib.decDigits, dif_neg (by omega)]
    · right
      have e1 : decide (10 ≤ (v : Int)) = false := by simp only [decide_eq_false_iff_not]; omega
      refine ⟨((v : Int), t), by simp [g_ref07_Decimal_s1, e1], v, t, rfl, by omega, ?_, ?_⟩
      · rcases Nat.eq_zero_or_pos v with h0 | h0
        · subst h0
          have hl := congrArg List.length happ
          rw [List.length_append, Lib.decDigits_one (by omega)] at hl
          have hn := decDigits_len u (by omega)
          simp at hl; omega
        · have := ht h0; omega
      · rw [← happ, Lib.decDigits_one (by omega)]; rfl
theorem itoa_nat (u : Nat) : Lib.itoa (u : Int) = Lib.decDigits u := Lib.itoa_nonneg u
theorem ref_Decimal_eq (n : Int) (h0 : -9223372036854775808 ≤ n) (h1 : n ≤ 9223372036854775807) : g_ref07_Decimal n = some (Lib.itoa n) := by
  by_cases hn : n < 0
  · obtain ⟨u, rfl, hu⟩ : ∃ u : Nat, n = -(u : Int) ∧ 1 ≤ u := ⟨n.natAbs, by omega, by omega⟩
    have hw : IntKind.u64.wrap (0 - IntKind.u64.wrap (-(u : Int))) = (u : Int) := by
      simp [IntKind.wrap, IntKind.bits, IntKind.signed]
      omega
    obtain ⟨v, t, he, hv, ht, hd⟩ := dec_loop u (by omega)
    have w1 := wrap_u64 ((v : Int) + 1) (by omega) (by omega)
    have e1 : decide (-(u : Int) < 0) = true := by simp only [decide_eq_true_eq]; omega
    simp only [g_ref07_Decimal, e1, if_true, hw, he, Option.bind_some, w1, dig_sub v hv]
    rw [if_pos (by simp), if_pos (by simp; omega), Lib.itoa_neg u hu, ← hd]
    rfl
  · obtain ⟨u, rfl⟩ : ∃ u : Nat, n = (u : Int) := ⟨n.toNat, by omega⟩
    have hw := wrap_u64 (u : Int) (by omega) (by omega)
    obtain ⟨v, t, he, hv, ht, hd⟩ := dec_loop u (by omega)
    have he2 : iter g_ref07_Decimal_s2 ((u : Int), []) = some ((v : Int), t) := he
    have w1 := wrap_u64 ((v : Int) + 1) (by omega) (by omega)
    have e1 : decide ((u : Int) < 0) = false := by simp
    simp only [g_ref07_Decimal, e1, Bool.false_eq_true, if_false, hw, he2, Option.bind_some, w1, dig_sub v hv]
    rw [if_pos (by simp), if_pos (by simp; omega), Lib.itoa_nonneg u, ← hd]
    rfl
theorem numV_snoc (l : List UInt8) (acc : Nat) (b : UInt8) : numV acc (l ++ [b]) = numV acc l * 10 + (b.toNat - 48) := by
  unfold numV; rw [List.foldl_append]; rfl
theorem dgt (k : Nat) (h : k < 10) : (UInt8.ofNat (48 + k)).toNat = 48 + k := by
  have : ∀ v : Fin 10, (UInt8.ofNat (48 + v.val)).toNat = 48 + v.val := by decide
  exact this ⟨k, h⟩
theorem dec_facts (u : Nat) : numV 0 (Lib.decDigits u) = u ∧ (Lib.decDigits u).all isDg = true ∧ ∃ b t, Lib.decDigits u = b :: t ∧ (1 ≤ u → b.toNat ≠ 48) := by
  induction u using Nat.strongRecOn with
  | _ u ih =>
    by_cases h : u < 10
    · rw [Lib.decDigits_one h]
      refine ⟨by rw [numV_cons, dgt u h]; show 0 * 10 + (48 + u - 48) = u; omega, ?_, _, [], rfl, fun h1 => by rw [dgt u h]; omega⟩
      simp [isDg, dgt u h]; omega
    · obtain ⟨i1, i2, b, t, i3, i4⟩ := ih (u / 10) (by omega)
      rw [Lib.decDigits, dif_neg h]
      refine ⟨?_, ?_, b, t ++ [UInt8.ofNat (48 + u % 10)], by rw [i3]; rfl, fun _ => i4 (by omega)⟩
      · rw [numV_snoc, i1, dgt _ (by omega)]; omega
      · rw [List.all_append, i2]
        simp [isDg, dgt (u % 10) (by omega)]; omega
theorem numS_itoa (n : Int) (h0 : -9223372036854775808 ≤ n) (h1 : n ≤ 9223372036854775807) : numS (Lib.itoa n) n n = (n, 0) := by
  by_cases hn : n < 0
  · obtain ⟨u, rfl, hu⟩ : ∃ u : Nat, n = -(u : Int) ∧ 1 ≤ u := ⟨n.natAbs, by omega, by omega⟩
    rw [Lib.itoa_neg u hu]
    obtain ⟨d1, d2, b, t, d3, d4⟩ := dec_facts u
    have hN : numN (45 :: Lib.decDigits u) = true := rfl
    have hD : numD (45 :: Lib.decDigits u) = Lib.decDigits u := by simp [numD, hN]
    have hB : numBad (45 :: Lib.decDigits u) = false := by
      unfold numBad
      rw [hD, d3]
      rw [d3] at d2
      have : (b.toNat == 48) = false := by simpa using d4 hu
      simp only [this, Bool.false_and, Bool.false_or, d2, Bool.not_true]
    have hV : numVal (45 :: Lib.decDigits u) = -(u : Int) := by unfold numVal; rw [hN, hD, d1]; rfl
    unfold numS
    rw [hB, hV]
    simp only [Bool.false_eq_true, if_false]
    rw [if_neg (by omega)]
  · obtain ⟨u, rfl⟩ : ∃ u : Nat, n = (u : Int) := ⟨n.toNat, by omega⟩
    rw [Lib.itoa_nonneg u]
    obtain ⟨d1, d2, b, t, d3, d4⟩ := dec_facts u
    have hb := List.all_eq_true.1 d2 b (by rw [d3]; simp)
    simp only [isDg, Bool.and_eq_true, decide_eq_true_eq] at hb
    have hN : numN (Lib.decDigits u) = false := by
      rw [d3]; simp [numN]; omega
    have hD : numD (Lib.decDigits u) = Lib.decDigits u := by simp [numD, hN]
    have hB : numBad (Lib.decDigits u) = false := by
      unfold numBad
      rw [hD, hN]
      cases Nat.eq_zero_or_pos u with
      | inl hz => subst hz; decide +kernel
      | inr hp =>
        rw [d3]
        rw [d3] at d2
        have : (b.toNat == 48) = false := by simpa using d4 hp
        simp only [this, Bool.false_and, Bool.false_or, d2, Bool.not_true]
    have hV : numVal (Lib.decDigits u) = (u : Int) := by unfold numVal; rw [hN, hD, d1]; rfl
    unfold numS
    rw [hB, hV]
    simp only [Bool.false_eq_true, if_false]
    rw [if_neg (by omega)]
theorem numS_zero (l : List UInt8) (hl : l ≠ []) (lo hi : Int) : numS ([48] ++ l) lo hi = (0, 4) := by
  have hN : numN ([48] ++ l) = false := rfl
  have hD : numD ([48] ++ l) = 48 :: l := by unfold numD; rw [hN]; rfl
  have hB : numBad ([48] ++ l) = true := by
    unfold numBad
    rw [hD, hN]
    have : decide (1 < (48 :: l).length) = true := by
      cases l with
      | nil => exact absurd rfl hl
      | cons a b => simp
    simp only [this]
    rfl
  unfold numS
  rw [hB]; rfl
theorem itoa_ne (n : Int) : Lib.itoa n ≠ [] := by
  unfold Lib.itoa
  split
  · simp
  · obtain ⟨_, _, b, t, d3, _⟩ := dec_facts n.toNat
    rw [d3]; simp
theorem LinesNumbers_true (s : List UInt8) (n hi : Int) (hs : s.length ≤ 281474976710656) (h0 : -9223372036854775808 ≤ n) (h1 : n ≤ 9223372036854775807) : g_law07_LinesNumbers s n hi = some true := by
  have hl := Lib.itoa_length_le n h0 h1
  have e1 := lines_Number_eq s n hi hs
  have e2 := ref_Number_eq s n hi (by omega)
  have e3 := lines_Number_eq (Lib.itoa n) n n (by omega)
  have e4 := lines_Number_eq ([48] ++ Lib.itoa n) n n (by simp; omega)
  rw [numS_itoa n h0 h1] at e3
  rw [numS_zero _ (itoa_ne n)] at e4
  have e5 : g_strconv_FormatInt n 10 = some (Lib.itoa n) := by simp [g_strconv_FormatInt]
  have hc : 1 + (Lib.itoa n).length ≤ 9223372036854775807 := by omega
  simp [g_law07_LinesNumbers, awake07, e1, e2, lines_Name_eq, ref07_Name_eq, g_lines_Decimal, e5, e3, hc, ref_Decimal_eq n h0 h1]
  have e4' : g_lines_Number (48 :: Lib.itoa n) n n = some (0, 4) := e4
  simp [e4']
end Go.Proofs.YtncmdhkmbmkiiaaDoor
