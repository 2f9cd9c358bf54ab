/- Layer 07, plain: quoting and unquoting; LinesQuotes answers true for strings that are not too long. -/
import Derived.Test.YtncmdhkmbmkiiaaDoorL07d
import Derived.Test.YtncmdhkmbmkiiaaDoorGG
set_option linter.unusedSimpArgs false
set_option linter.unusedVariables false
namespace Go.Proofs.YtncmdhkmbmkiiaaDoor
set_option maxRecDepth 100000

/-- A byte in quotes. -/
def quB (b : UInt8) : List UInt8 := if b.toNat = 34 ∨ b.toNat = 92 then [92, b] else if b.toNat = 10 then [92, 110] else [b]
def quS (s : List UInt8) : List UInt8 := 34 :: (s.flatMap quB ++ [34])
def toI (l : List UInt8) : List Int := l.map fun b => (b.toNat : Int)
theorem bytesOf_toI (l : List UInt8) : bytesOf (toI l) = l := by
  induction l with
  | nil => rfl
  | cons a t ih => simp only [bytesOf, toI, List.map_cons] at ih ⊢; rw [ih]; simp
theorem toI_append (l m : List UInt8) : toI (l ++ m) = toI l ++ toI m := by simp [toI]
theorem toI_length (l : List UInt8) : (toI l).length = l.length := by simp [toI]
theorem quB_len (b : UInt8) : (quB b).length ≤ 2 := by
  unfold quB; split
  · simp
  · split <;> simp
theorem qu_len : ∀ (s : List UInt8), (s.flatMap quB).length ≤ 2 * s.length
  | [] => by simp
  | b :: t => by
    have := qu_len t; have := quB_len b
    simp only [List.flatMap_cons, List.length_append, List.length_cons]; omega
theorem qu_take {s : List UInt8} {i : Nat} (h : i < s.length) : (s.take (i + 1)).flatMap quB = (s.take i).flatMap quB ++ quB s[i] := by
  rw [List.take_add_one, List.getElem?_eq_getElem h]
  simp only [List.flatMap_append, Option.toList_some, List.flatMap_cons, List.flatMap_nil, List.append_nil]
theorem take_len (s : List UInt8) (i : Nat) : ((s.take i).flatMap quB).length ≤ 2 * s.length := by
  have h1 := qu_len (s.take i)
  have h2 : (s.take i).length ≤ s.length := by simp; omega
  omega
theorem lines_Quote_loop (s : List UInt8) (hs : s.length ≤ 70000000000000) : iter (g_lines_Quote_s1 s) (0, [34]) = some (toI (34 :: s.flatMap quB)) := by
  refine iter_of (fun x e => ∃ i : Nat, x.1 = (i : Int) ∧ i ≤ s.length ∧ x.2 = toI (34 :: (s.take i).flatMap quB) ∧ e = toI (34 :: s.flatMap quB)) (fun x => s.length - x.1.toNat) ?_ (x := (0, [34])) ⟨0, rfl, Nat.zero_le _, by simp [toI], rfl⟩ (by show s.length - _ < _; omega)
  rintro ⟨z, acc⟩ e ⟨i, hz, hi, ha, rfl⟩
  simp only at hz ha
  subst hz ha
  by_cases h : i < s.length
  · left
    have hw := wrap_i64 ((i : Int) + 1) (by omega) (by omega)
    have hcnd : decide ((i : Int) < (s.length : Int)) = true := by simpa using h
    have hl := take_len s i
    have hlen : (toI (34 :: (s.take i).flatMap quB)).length = ((s.take i).flatMap quB).length + 1 := by simp [toI]
    refine ⟨((i : Int) + 1, toI (34 :: (s.take (i + 1)).flatMap quB)), ?_, ⟨i + 1, by simp, by omega, rfl, rfl⟩, by simp; omega⟩
    have e1 : toI (34 :: (s.take (i + 1)).flatMap quB) = toI (34 :: (s.take i).flatMap quB) ++ toI (quB s[i]) := by
      rw [qu_take h, ← List.cons_append, toI_append]
    rw [e1]
    generalize hA : toI (34 :: (s.take i).flatMap quB) = A at hlen ⊢
    have g2 : (A.length + 2) * 1 ≤ 140737488355328 := by omega
    have g1 : (A.length + 1) * 1 ≤ 140737488355328 := by omega
    simp only [g_lines_Quote_s1, hcnd, if_true, atI_nat h, Option.bind_some, hw, g1, g2, quB, beq_iff_eq]
    by_cases h1 : s[i].toNat = 34
    · simp [h1, toI]
    · by_cases h2 : s[i].toNat = 92
      · simp [h2, toI]
      · by_cases h3 : s[i].toNat = 10
        · simp [h3, toI]
        · have k1 : ¬ ((s[i].toNat : Int) = 34) := by omega
          have k2 : ¬ ((s[i].toNat : Int) = 92) := by omega
          have k3 : ¬ ((s[i].toNat : Int) = 10) := by omega
          simp [h1, h2, h3, k1, k2, k3, toI]
  · right
    obtain rfl : i = s.length := by omega
    simp [g_lines_Quote_s1]
theorem lines_Quote_eq (s : List UInt8) (hs : s.length ≤ 70000000000000) : g_lines_Quote s = some (quS s) := by
  have hl := qu_len s
  have g1 : ((toI (34 :: s.flatMap quB)).length + 1) * 1 ≤ 140737488355328 := by simp only [toI_length, List.length_cons]; omega
  have : toI (34 :: s.flatMap quB) ++ [34] = toI (quS s) := by simp [toI, quS]
  simp only [g_lines_Quote, lines_Quote_loop s hs, Option.bind_some, g1, if_true, this, bytesOf_toI]
theorem ref_Quote_loop (s : List UInt8) (hs : s.length ≤ 70000000000000) : iter (g_ref07_Quote_s1 s) ([34], 0) = some (34 :: s.flatMap quB) := by
  refine iter_of (fun x e => ∃ i : Nat, x.2 = (i : Int) ∧ i ≤ s.length ∧ x.1 = 34 :: (s.take i).flatMap quB ∧ e = 34 :: s.flatMap quB) (fun x => s.length - x.2.toNat) ?_ (x := ([34], 0)) ⟨0, rfl, Nat.zero_le _, by simp, rfl⟩ (by show s.length - _ < _; omega)
  rintro ⟨acc, z⟩ e ⟨i, hz, hi, ha, rfl⟩
  simp only at hz ha
  subst hz ha
  by_cases h : i < s.length
  · left
    have hw := wrap_i64 ((i : Int) + 1) (by omega) (by omega)
    have hcnd : decide ((i : Int) < (s.length : Int)) = true := by simpa using h
    have hl := take_len s i
    have hlen : (34 :: (s.take i).flatMap quB).length = ((s.take i).flatMap quB).length + 1 := by simp
    refine ⟨(34 :: (s.take (i + 1)).flatMap quB, (i : Int) + 1), ?_, ⟨i + 1, by simp, by omega, rfl, rfl⟩, by simp; omega⟩
    have e1 : 34 :: (s.take (i + 1)).flatMap quB = (34 :: (s.take i).flatMap quB) ++ quB s[i] := by
      rw [qu_take h, ← List.cons_append]
    rw [e1]
    generalize hA : 34 :: (s.take i).flatMap quB = A at hlen ⊢
    have g2 : A.length + 2 ≤ 9223372036854775807 := by omega
    have g1 : A.length + 1 ≤ 9223372036854775807 := by omega
    have g3 : A.length + (1 + 1) ≤ 9223372036854775807 := by omega
    simp only [g_ref07_Quote_s1, hcnd, if_true, atI_nat h, Option.bind_some, hw, sub1 h, quB, beq_iff_eq]
    by_cases h1 : s[i].toNat = 34
    · simp [h1, g1, g2, g3]
    · by_cases h2 : s[i].toNat = 92
      · simp [h2, g1, g2, g3]
      · by_cases h3 : s[i].toNat = 10
        · simp [h3, g1, g2, g3]
        · have k1 : ¬ ((s[i].toNat : Int) = 34) := by omega
          have k2 : ¬ ((s[i].toNat : Int) = 92) := by omega
          have k3 : ¬ ((s[i].toNat : Int) = 10) := by omega
          simp [h1, h2, h3, k1, k2, k3, g1]
  · right
    obtain rfl : i = s.length := by omega
    simp [g_ref07_Quote_s1]
theorem ref_Quote_eq (s : List UInt8) (hs : s.length ≤ 70000000000000) : g_ref07_Quote s = some (quS s) := by
  have hl := qu_len s
  have g1 : (34 :: s.flatMap quB).length + 1 ≤ 9223372036854775807 := by simp only [List.length_cons]; omega
  simp only [g_ref07_Quote, ref_Quote_loop s hs, Option.bind_some, g1, if_true, quS, List.cons_append]
/-- What Unquote answers. -/
def unS (s : List UInt8) : List UInt8 × Int := match s with
  | [] => ([], 4)
  | b :: t => if b.toNat = 34 then (match qS t with
    | .ok text n => if 1 + n = s.length then (text, 0) else ([], 4)
    | _ => ([], 4)) else ([], 4)
theorem unq_tail (s : List UInt8) (r : QR) : (if (decide (0 ≤ (qres 1 s.length r).2.2)) then (some (([] : List UInt8), (4 : Int))) else (if ((qres 1 s.length r).2.1 != (s.length : Int)) then (some ([], 4)) else (some ((qres 1 s.length r).1, 0)))) = some (match r with
    | .ok text n => if 1 + n = s.length then (text, 0) else ([], 4)
    | _ => ([], 4)) := by
  cases r with
  | ok text n =>
    simp only [qres]
    by_cases h : 1 + n = s.length
    · have : ((1 + n : Nat) : Int) = (s.length : Int) := by omega
      simp [h]
    · have : ¬ ((1 + n : Nat) : Int) = (s.length : Int) := by omega
      simp [h]; omega
  | bad n =>
    have h0 : (0 : Int) ≤ (qres 1 s.length (.bad n)).2.2 := by simp only [qres]; omega
    rw [if_pos (decide_eq_true h0)]
  | stop => simp [qres]
theorem lines_Unquote_eq (s : List UInt8) (hs : s.length ≤ 140737488355327) : g_lines_Unquote s = some (unS s) := by
  cases s with
  | nil => simp [g_lines_Unquote, unS]
  | cons b t =>
    have h1 : 1 ≤ (b :: t).length := by simp
    simp only [g_lines_Unquote, lines_quoted_eq (b :: t) hs h1, unS]
    have e1 : ((b :: t) == ([] : List UInt8)) = false := rfl
    have e2 : atI (b :: t) 0 = some b := by simp [atI]
    simp only [e1, e2, Option.bind_some, List.drop_succ_cons, List.drop_zero, Bool.false_eq_true, if_false]
    by_cases hb : b.toNat = 34
    · have e3 : ((b.toNat : Int) != 34) = false := by simp; omega
      simp only [e3, Bool.false_eq_true, if_false]
      simp only [hb, if_true]
      exact unq_tail (b :: t) (qS t)
    · have e3 : ((b.toNat : Int) != 34) = true := by simp; omega
      simp only [e3, if_true]
      simp only [hb, if_false]
theorem ref_Unquote_eq (s : List UInt8) (hs : s.length ≤ 140737488355327) : g_ref07_Unquote s = some (unS s) := by
  cases s with
  | nil => simp [g_ref07_Unquote, unS]
  | cons b t =>
    have h1 : 0 < (b :: t).length := by simp
    have hq := ref_quoted_eq (b :: t) (by omega) 0 h1
    simp only [Int.natCast_zero, Nat.zero_add] at hq
    have hq : g_ref07_quoted (b :: t) 0 = some (qres 1 (b :: t).length (qS (List.drop 1 (b :: t)))) := hq
    simp only [g_ref07_Unquote, hq, unS]
    have e1 : (((b :: t).length : Int) == 0) = false := by simp; omega
    have e2 : atI (b :: t) 0 = some b := by simp [atI]
    simp only [e1, e2, Option.bind_some, List.drop_succ_cons, List.drop_zero, Bool.false_eq_true, if_false]
    by_cases hb : b.toNat = 34
    · have e3 : ((b.toNat : Int) != 34) = false := by simp; omega
      simp only [e3, Bool.false_eq_true, if_false]
      simp only [hb, if_true]
      exact unq_tail (b :: t) (qS t)
    · have e3 : ((b.toNat : Int) != 34) = true := by simp; omega
      simp only [e3, if_true]
      simp only [hb, if_false]
/-- A byte that may stand in quotes, or a line's end. -/
def plB (b : UInt8) : Bool := (decide (32 ≤ b.toNat) && b.toNat != 127) || b.toNat == 10
theorem qS_quB (b : UInt8) (t : List UInt8) (h : plB b = true) : qS (quB b ++ t) = (qS t).sh (quB b).length [b] := by
  unfold quB
  simp only [plB, Bool.or_eq_true, Bool.and_eq_true, decide_eq_true_eq, bne_iff_ne, ne_eq, beq_iff_eq] at h
  by_cases h1 : b.toNat = 34 ∨ b.toNat = 92
  · simp only [h1, if_true, List.cons_append, List.nil_append]
    rw [qS_cons]
    have e1 : ¬ (92 : UInt8).toNat = 34 := by decide
    have e2 : (92 : UInt8).toNat = 92 := by decide
    simp [e1, e2, h1]
  · simp only [h1, if_false]
    by_cases h2 : b.toNat = 10
    · have hb : b = 10 := UInt8.toNat_inj.1 h2
      subst hb
      simp only [h2, if_true, List.cons_append, List.nil_append]
      rw [qS_cons]
      have e1 : ¬ (92 : UInt8).toNat = 34 := by decide
      have e2 : (92 : UInt8).toNat = 92 := by decide
      have e3 : ¬ ((110 : UInt8).toNat = 34 ∨ (110 : UInt8).toNat = 92) := by decide
      have e4 : (110 : UInt8).toNat = 110 := by decide
      simp [e1, e2, e3, e4]
    · simp only [h2, if_false, List.cons_append, List.nil_append]
      rw [qS_cons]
      have e1 : ¬ b.toNat = 34 := fun h => h1 (.inl h)
      have e2 : ¬ b.toNat = 92 := fun h => h1 (.inr h)
      have e3 : ¬ (b.toNat < 32 ∨ b.toNat = 127) := by omega
      simp [e1, e2, e3]
theorem qS_back : ∀ (s : List UInt8), s.all plB = true → qS (s.flatMap quB ++ [34]) = .ok s ((s.flatMap quB).length + 1)
  | [], _ => by
    rw [List.flatMap_nil, List.nil_append, qS_cons]
    have e1 : (34 : UInt8).toNat = 34 := by decide
    simp [e1]
  | b :: t, h => by
    simp only [List.all_cons, Bool.and_eq_true] at h
    rw [List.flatMap_cons, List.append_assoc, qS_quB b _ h.1, qS_back t h.2]
    simp only [QR.sh, List.length_append, List.cons_append, List.nil_append, QR.ok.injEq, true_and]
    omega
theorem unS_quS (s : List UInt8) (h : s.all plB = true) : unS (quS s) = (s, 0) := by
  have e1 : (34 : UInt8).toNat = 34 := by decide
  simp only [unS, quS, e1, if_true, qS_back s h, List.length_cons, List.length_append, List.length_nil]
  rw [if_pos (by omega)]
theorem plain_loop (s : List UInt8) (hs : s.length ≤ 9223372036854775806) : ∃ e, iter (g_law07_LinesQuotes_s1 s) (true, 0) = some e ∧ e = s.all plB := by
  refine ⟨s.all plB, ?_, rfl⟩
  refine iter_of (fun x e => ∃ i : Nat, x.2 = (i : Int) ∧ i ≤ s.length ∧ x.1 = (s.take i).all plB ∧ e = s.all plB) (fun x => s.length - x.2.toNat) ?_ (x := (true, 0)) ⟨0, rfl, Nat.zero_le _, by simp, rfl⟩ (by show s.length - _ < _; omega)
  rintro ⟨acc, z⟩ e ⟨i, hz, hi, ha, rfl⟩
  simp only at hz ha
  subst hz ha
  by_cases h : i < s.length
  · left
    have hw := wrap_i64 ((i : Int) + 1) (by omega) (by omega)
    have hcnd : decide ((i : Int) < (s.length : Int)) = true := by simpa using h
    refine ⟨((s.take (i + 1)).all plB, (i : Int) + 1), ?_, ⟨i + 1, by simp, by omega, rfl, rfl⟩, by simp; omega⟩
    have e1 : (s.take (i + 1)).all plB = ((s.take i).all plB && plB s[i]) := by
      rw [List.take_add_one, List.getElem?_eq_getElem h]
      simp only [List.all_append, Option.toList_some, List.all_cons, List.all_nil, Bool.and_true]
    rw [e1]
    simp only [g_law07_LinesQuotes_s1, hcnd, if_true, atI_nat h, Option.bind_some, hw, plB]
    generalize (s.take i).all plB = A
    generalize s[i].toNat = m
    have f1 : decide ((32 : Int) ≤ (m : Int)) = decide (32 ≤ m) := decide_eq_decide.2 (by omega)
    have f2 : ((m : Int) != 127) = (m != 127) := by rw [Bool.eq_iff_iff]; simp only [bne_iff_ne, ne_eq]; omega
    have f3 : ((m : Int) == 10) = (m == 10) := by rw [Bool.eq_iff_iff]; simp only [beq_iff_eq]; omega
    simp only [f1, f2, f3]
    cases A <;> cases decide (32 ≤ m) <;> cases (m != 127) <;> cases (m == 10) <;> rfl
  · right
    obtain rfl : i = s.length := by omega
    simp [g_law07_LinesQuotes_s1]
theorem LinesQuotes_true (s : List UInt8) (hs : s.length ≤ 70000000000) : g_law07_LinesQuotes s = some true := by
  obtain ⟨e, he, hp⟩ := plain_loop s (by omega)
  have hl := qu_len s
  have hq : (quS s).length ≤ 140737488355327 := by simp only [quS, List.length_cons, List.length_append, List.length_nil]; omega
  simp only [g_law07_LinesQuotes, awake07, lines_Unquote_eq s (by omega), ref_Unquote_eq s (by omega), lines_Quote_eq s (by omega), ref_Quote_eq s (by omega), he, hp, lines_Unquote_eq _ hq, Option.bind_some]
  cases h : s.all plB with
  | false => simp
  | true => simp [unS_quS s h]
end Go.Proofs.YtncmdhkmbmkiiaaDoor
