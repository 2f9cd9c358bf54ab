/- Layer 07, plain: LinesLong answers true for numbers that are of their kinds. -/
import Derived.Test.YtncmdhkmbmkiiaaDoorL07d
import Derived.Test.YtncmdhkmbmkiiaaDoorGG
set_option linter.unusedSimpArgs false
set_option linter.unusedVariables false
namespace Go.Proofs.YtncmdhkmbmkiiaaDoor
set_option maxRecDepth 100000

theorem grow_loop (step : (List UInt8) × Int → Option (Nx ((List UInt8) × Int) (List UInt8))) (c : List UInt8) (k : Nat) (hk : k ≤ 2000) (hc : c.length ≤ 10)
    (hs : ∀ (acc : List UInt8) (i : Nat), acc.length ≤ 30000 → i ≤ k → step (acc, (i : Int)) = if i < k then some (.go (acc ++ c, ((i + 1 : Nat) : Int))) else some (.out acc)) : iter step ([], 0) = some ((List.replicate k c).flatten) := by
  refine iter_of (fun x e => ∃ i : Nat, x.2 = (i : Int) ∧ i ≤ k ∧ x.1 = (List.replicate i c).flatten ∧ e = (List.replicate k c).flatten) (fun x => k - x.2.toNat) ?_ (x := ([], 0)) ⟨0, rfl, Nat.zero_le _, by simp, rfl⟩ (by show k - _ < _; omega)
  rintro ⟨acc, z⟩ e ⟨i, hz, hi, ha, rfl⟩
  simp only at hz ha
  subst hz
  have hl : acc.length ≤ 30000 := by
    rw [ha, List.length_flatten, List.map_replicate, List.sum_replicate_nat]
    have : i * c.length ≤ 2000 * 10 := Nat.mul_le_mul (by omega) hc
    omega
  by_cases h : i < k
  · left
    refine ⟨(acc ++ c, ((i + 1 : Nat) : Int)), by rw [hs acc i hl hi, if_pos h], ⟨i + 1, rfl, by omega, by rw [ha, List.replicate_succ']; simp, rfl⟩, by simp; omega⟩
  · right
    obtain rfl : i = k := by omega
    rw [hs acc i hl hi, if_neg h, ha]
theorem tmod5 (n : Int) (h0 : 0 ≤ n) (h1 : n ≤ 65535) : ∃ k : Nat, Int.tmod n 5 = (k : Int) ∧ k < 5 := by
  refine ⟨(n % 5).toNat, ?_, ?_⟩
  · rw [Int.tmod_eq_emod_of_nonneg h0]; omega
  · omega
theorem tmod120 (n : Int) (h0 : 0 ≤ n) (h1 : n ≤ 65535) : ∃ k : Nat, Int.tmod n 120 = (k : Int) ∧ k < 120 := by
  refine ⟨(n % 120).toNat, ?_, ?_⟩
  · rw [Int.tmod_eq_emod_of_nonneg h0]; omega
  · omega
theorem fill_loop (step : Int × (List Int) → Option (Nx (Int × (List Int)) (List Int))) (N : Nat) (hN : N ≤ 1000000)
    (hs : ∀ (l : List Int) (i : Nat), l.length = N → i ≤ N → step ((i : Int), l) = if i < N then some (.go (((i + 1 : Nat) : Int), l.set i 32)) else some (.out l)) : iter step (0, List.replicate N 0) = some (List.replicate N 32) := by
  refine iter_of (fun x e => ∃ i : Nat, x.1 = (i : Int) ∧ i ≤ N ∧ x.2.length = N ∧ (∀ j, j < i → x.2[j]? = some 32) ∧ e = List.replicate N 32) (fun x => N - x.1.toNat) ?_ (x := (0, List.replicate N 0)) ⟨0, rfl, Nat.zero_le _, by simp, by omega, rfl⟩ (by show N - _ < _; omega)
  rintro ⟨z, l⟩ e ⟨i, hz, hi, hl, ha, rfl⟩
  simp only at hz ha hl
  subst hz
  by_cases h : i < N
  · left
    refine ⟨(((i + 1 : Nat) : Int), l.set i 32), by rw [hs l i hl hi, if_pos h], ⟨i + 1, rfl, by omega, by simpa using hl, fun j hj => ?_, rfl⟩, by simp; omega⟩
    rw [List.getElem?_set]
    by_cases hij : i = j
    · subst hij; simp [hl, h]
    · rw [if_neg hij]; exact ha j (by omega)
  · right
    obtain rfl : i = N := by omega
    rw [hs l i hl hi, if_neg h]
    congr 2
    apply List.ext_getElem?
    intro j
    rw [List.getElem?_replicate]
    by_cases hj : j < i
    · rw [ha j hj, if_pos hj]
    · rw [if_neg hj, List.getElem?_eq_none (by omega)]
theorem wS_word (k : Nat) : wS (List.replicate k 97) = .inl k := by
  induction k with
  | zero => rfl
  | succ k ih =>
    have e : ¬ (97 : UInt8).toNat = 32 := by decide
    have e2 : wB 97 = true := by decide
    simp only [List.replicate_succ, wS, e, if_false, e2, if_true, ih, wSh]
    congr 1; omega
theorem fS_word (k : Nat) (h : 0 < k) : fS (List.replicate k 97) 0 = .ok [⟨List.replicate k 97, 1, false⟩] := by
  obtain ⟨m, rfl⟩ : ∃ m, k = m + 1 := ⟨k - 1, by omega⟩
  have hw := wS_word (m + 1)
  rw [List.replicate_succ] at hw ⊢
  rw [fS_cons]
  have e1 : ¬ (97 : UInt8).toNat = 32 := by decide
  have e2 : ¬ (97 : UInt8).toNat = 35 := by decide
  have e3 : ¬ (97 : UInt8).toNat = 34 := by decide
  simp only [e1, e2, e3, if_false, hw, Nat.add_sub_cancel]
  rw [List.drop_of_length_le (by simp), fS_nil]
  simp [FR.cons]
theorem fS_blank (k p : Nat) : fS (List.replicate k 32) p = .ok [] := by
  induction k generalizing p with
  | zero => exact fS_nil p
  | succ k ih =>
    rw [List.replicate_succ, fS_cons]
    have e1 : (32 : UInt8).toNat = 32 := by decide
    simp only [e1, if_true, ih]
theorem no10 (k : Nat) (c : UInt8) (hc : c.toNat ≠ 10) : spL (List.replicate k c) = [List.replicate k c] := spL_no _ fun b hb => by rw [List.eq_of_mem_replicate hb]; exact hc
theorem split_long (k : Nat) (h : 1000 < k) (hk : k ≤ 2000) : splitS (List.replicate k 97) = ([], [⟨1, 1001, 9⟩]) := by
  unfold splitS
  rw [if_neg (by simp; omega), no10 k 97 (by decide)]
  simp [allR, lr, h, accL]
theorem split_word (k : Nat) (h : 0 < k) (hk : k ≤ 1000) : splitS (List.replicate k 97) = ([⟨1, [⟨List.replicate k 97, 1, false⟩]⟩], []) := by
  unfold splitS
  rw [if_neg (by simp; omega), no10 k 97 (by decide)]
  have e : ¬ 1000 < (List.replicate k (97 : UInt8)).length := by simp; omega
  simp only [allR, lr, e, if_false, fS_word k h, accL]
  simp
theorem split_blank (k : Nat) (hk : k ≤ 1000) : splitS (List.replicate k 32) = ([], []) := by
  unfold splitS
  rw [if_neg (by simp; omega), no10 k 32 (by decide)]
  have e : ¬ 1000 < (List.replicate k (32 : UInt8)).length := by simp; omega
  simp only [allR, lr, e, if_false, fS_blank, accL]
  simp
theorem split_great (s : List UInt8) (h : s.length = 262145) : splitS s = ([], [⟨1, 1, 9⟩]) := by
  unfold splitS
  rw [if_pos (by omega)]
theorem bytes32 (k : Nat) : bytesOf (List.replicate k 32) = List.replicate k 32 := by
  unfold bytesOf
  rw [List.map_replicate]
  rfl
theorem mk0 : mkI 1 262145 (0 : Int) = some (List.replicate 262145 0) := by
  unfold mkI
  rw [if_pos (by decide)]
  rfl
theorem sub_repl (N : Nat) (h : 1001 ≤ N) : subI (List.replicate N (32 : Int)) 1 1001 = some (List.replicate 1000 32) := by
  unfold subI
  have e1 : Int.toNat 1 = 1 := rfl
  have e2 : Int.toNat 1001 = 1001 := rfl
  rw [List.length_replicate, e1, e2, if_pos ⟨by decide, by decide, h, by decide⟩, List.drop_replicate, List.take_replicate, show min (1001 - 1) (N - 1) = 1000 by omega]
theorem LinesLong_core (N : Nat) (hN : N = 262145) (m0 : mkI 1 262145 (0 : Int) = some (List.replicate N 0)) (n c : Int) (h0 : 0 ≤ n) (h1 : n ≤ 65535) (h2 : 0 ≤ c) (h3 : c ≤ 255) : g_law07_LinesLong n c = some true := by
  obtain ⟨k5, e5, l5⟩ := tmod5 n h0 h1
  obtain ⟨k120, e120, l120⟩ := tmod120 n h0 h1
  have wn : IntKind.i64.wrap n = n := wrap_i64 n (by omega) (by omega)
  have w5 : IntKind.i64.wrap (998 + IntKind.i64.wrap (Int.tmod n 5)) = ((998 + k5 : Nat) : Int) := by
    rw [e5, wrap_i64 (k5 : Int) (by omega) (by omega), wrap_i64 _ (by omega) (by omega)]; omega
  have hlen : (bytesOf [120, 32, c, 10]).length = 4 := by simp [bytesOf]
  have L1 : iter (g_law07_LinesLong_s1 n) ([], 0) = some (List.replicate (998 + k5) 97) := by
    have := grow_loop (g_law07_LinesLong_s1 n) [97] (998 + k5) (by omega) (by simp) (fun acc i ha hi => by
      have hw := wrap_i64 ((i : Int) + 1) (by omega) (by omega)
      have g1 : acc.length + 1 ≤ 9223372036854775807 := by omega
      simp only [g_law07_LinesLong_s1, w5, hw, g1, if_true, decide_eq_true_eq, Int.ofNat_lt]
      split <;> simp)
    rw [this]
    congr 1
    rw [← List.flatMap_id, List.flatMap_replicate] <;> simp
  have hb : (bytesOf [120, 32, c, 10]).length ≤ 10 := by omega
  have L2 : iter (g_law07_LinesLong_s2 n c) ([], 0) = some ((List.replicate k120 (bytesOf [120, 32, c, 10])).flatten) := by
    refine grow_loop (g_law07_LinesLong_s2 n c) _ k120 (by omega) hb (fun acc i ha hi => ?_)
    have hw := wrap_i64 ((i : Int) + 1) (by omega) (by omega)
    have g1 : acc.length + (bytesOf [120, 32, c, 10]).length ≤ 9223372036854775807 := by omega
    simp only [g_law07_LinesLong_s2, wn, e120, hw, g1, if_true, decide_eq_true_eq, Int.ofNat_lt]
    split <;> simp
  have L4 : iter (g_law07_LinesLong_s4 n c) ([], 0) = some ((List.replicate k120 (bytesOf [120, 32, c, 10])).flatten) := by
    refine grow_loop (g_law07_LinesLong_s4 n c) _ k120 (by omega) hb (fun acc i ha hi => ?_)
    have hw := wrap_i64 ((i : Int) + 1) (by omega) (by omega)
    have g1 : acc.length + (bytesOf [120, 32, c, 10]).length ≤ 9223372036854775807 := by omega
    simp only [g_law07_LinesLong_s4, wn, e120, hw, g1, if_true, decide_eq_true_eq, Int.ofNat_lt]
    split <;> simp
  have L3 : iter g_law07_LinesLong_s3 (0, List.replicate N 0) = some (List.replicate N 32) := by
    refine fill_loop g_law07_LinesLong_s3 N (by omega) (fun l i hl hi => ?_)
    have hw := wrap_i64 ((i : Int) + 1) (by omega) (by omega)
    simp only [g_law07_LinesLong_s3]
    by_cases h : i < N
    · have hc : decide ((i : Int) < 262145) = true := by simp; omega
      have hs : setI l (i : Int) 32 = some (l.set i 32) := by unfold setI; rw [if_pos (by omega)]; rfl
      simp only [hc, if_true, atI_nat (show i < l.length by omega), Option.bind_some, hs, hw, h]
      simp
    · have hc : decide ((i : Int) < 262145) = false := by simp; omega
      simp only [hc, if_neg h, Bool.false_eq_true, if_false]
  have e53 : g_law07_LinesLong_s5 = g_law07_LinesLong_s3 := rfl
  have L5 : iter g_law07_LinesLong_s5 (0, List.replicate N 0) = some (List.replicate N 32) := by rw [e53]; exact L3
  generalize hT : (List.replicate k120 (bytesOf [120, 32, c, 10])).flatten = T at L2 L4
  obtain ⟨t1, t2, t3⟩ := splitS_small T
  have SL := sameLines_refl (splitS T).1 (by omega) (fun x hx => by have := t3 x hx; omega)
  have SD := sameDiags_refl (splitS T).2 (by omega)
  have D1 := sameDiags_refl [⟨1, 1001, 9⟩] (by simp)
  have D2 := sameDiags_refl [⟨1, 1, 9⟩] (by simp)
  have G : splitS (List.replicate N 32) = ([], [⟨1, 1, 9⟩]) := split_great _ (by rw [List.length_replicate, hN])
  have S1 := sub_repl N (by omega)
  have hd : decide (((splitS T).2.length : Int) ≤ 50) = true := by simp; omega
  by_cases hk : 1000 < 998 + k5
  · have hc : decide (1000 < ((998 + k5 : Nat) : Int)) = true := by simp; omega
    simp only [g_law07_LinesLong, awake07, Option.bind_some, if_true, L1, L2, L3, lines_Split_eq, ref_Split_eq, w5, hc, split_long _ hk (by omega), D1, m0, bytes32, G, S1, split_blank 1000 (by omega), SL, SD, D2, hd]
    simp
  · have hc : decide (1000 < ((998 + k5 : Nat) : Int)) = false := by simp; omega
    have hat : atI ([⟨List.replicate (998 + k5) 97, 1, false⟩] : List T_api_Field) 0 = some ⟨List.replicate (998 + k5) 97, 1, false⟩ := rfl
    have hat2 : atI ([⟨1, [⟨List.replicate (998 + k5) 97, 1, false⟩]⟩] : List T_api_Line) 0 = some ⟨1, [⟨List.replicate (998 + k5) 97, 1, false⟩]⟩ := rfl
    simp only [g_law07_LinesLong, awake07, Option.bind_some, if_true, L1, L4, L5, lines_Split_eq, ref_Split_eq, w5, hc, split_word (998 + k5) (by omega) (by omega), m0, bytes32, G, S1, split_blank 1000 (by omega), SL, SD, D2, hd, hat, hat2, Bool.false_eq_true, if_false]
    simp
theorem LinesLong_true (n c : Int) (h0 : 0 ≤ n) (h1 : n ≤ 65535) (h2 : 0 ≤ c) (h3 : c ≤ 255) : g_law07_LinesLong n c = some true :=
  LinesLong_core 262145 rfl mk0 n c h0 h1 h2 h3
end Go.Proofs.YtncmdhkmbmkiiaaDoor
