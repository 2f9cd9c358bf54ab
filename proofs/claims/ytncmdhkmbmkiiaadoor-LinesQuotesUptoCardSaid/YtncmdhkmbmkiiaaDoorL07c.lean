/- Layer 07, plain: the lines of a text. -/
import Derived.Test.YtncmdhkmbmkiiaaDoorL07b
set_option linter.unusedSimpArgs false
set_option linter.unusedVariables false
namespace Go.Proofs.YtncmdhkmbmkiiaaDoor
set_option maxRecDepth 100000

/-- A text cut at its line feeds. -/
def spL : List UInt8 → List (List UInt8)
  | [] => [[]]
  | b :: t => if b.toNat = 10 then [] :: spL t else match spL t with
    | [] => [[b]]
    | h :: r => (b :: h) :: r
theorem spL_no : ∀ (s : List UInt8), (∀ b ∈ s, b.toNat ≠ 10) → spL s = [s]
  | [], _ => rfl
  | b :: t, h => by
    have := spL_no t (fun x hx => h x (by simp [hx]))
    simp only [spL, if_neg (h b (by simp)), this]
theorem spL_hit : ∀ (i : Nat) (s : List UInt8) (hi : i < s.length), s[i].toNat = 10 → (∀ (j : Nat) (hj : j < i), s[j].toNat ≠ 10) → spL s = s.take i :: spL (s.drop (i + 1))
  | 0, b :: t, _, h10, _ => by
    have : b.toNat = 10 := h10
    simp [spL, this]
  | i + 1, b :: t, hi, h10, hn => by
    have h0 : b.toNat ≠ 10 := hn 0 (by omega)
    have := spL_hit i t (by simpa using hi) (by simpa using h10) (fun j hj => by have := hn (j + 1) (by omega); simpa using this)
    simp only [spL, if_neg h0, this]
    simp
  | 0, [], hi, _, _ => by simp at hi
  | _ + 1, [], hi, _, _ => by simp at hi
theorem u8_10 (b : UInt8) : b = 10 ↔ b.toNat = 10 := ⟨fun h => by rw [h]; rfl, fun h => UInt8.toNat_inj.1 h⟩
theorem split_eq : ∀ (n : Nat) (s : List UInt8), s.length ≤ n → Lib.split s [10] = spL s := by
  intro n
  induction n with
  | zero => intro s hs; have : s = [] := List.eq_nil_of_length_eq_zero (by omega); subst this; rfl
  | succ n ih =>
    intro s hs
    have hix := Lib.index_one s 10
    by_cases hm : Lib.index s [10] = -1
    · have hno : ∀ b ∈ s, b.toNat ≠ 10 := by
        intro b hb h10
        obtain ⟨k, hk⟩ := List.getElem?_of_mem hb
        exact Lib.indexByte_none (by rw [← hix]; exact hm) k (by rw [hk, (u8_10 b).2 h10])
      rw [spL_no s hno]
      unfold Lib.split
      rw [Lib.count_miss hm]
      rfl
    · have hge := Lib.index_ge s [10]
      obtain ⟨i, hi⟩ : ∃ i : Nat, Lib.index s [10] = i := ⟨(Lib.index s [10]).toNat, by omega⟩
      obtain ⟨h1, h2⟩ := Lib.indexByte_some (by rw [← hix]; exact hi)
      obtain ⟨hlt, hget⟩ := List.getElem?_eq_some_iff.1 h1
      have hspl := spL_hit i s hlt (by rw [hget]; rfl) (fun j hj h10 => h2 j hj (by rw [List.getElem?_eq_getElem (by omega), (u8_10 _).2 h10]))
      rw [hspl]
      unfold Lib.split
      rw [Lib.count_hit (by simp) hi, Nat.add_comm]
      unfold Lib.splitK
      have hne : ¬ (Lib.index s [10] == -1) = true := by simp; omega
      rw [if_neg hne, hi]
      simp only [Int.toNat_natCast, Nat.add_zero, List.length_cons, List.length_nil, Nat.zero_add]
      congr 1
      exact ih (s.drop (i + 1)) (by simp; omega)
theorem fS_bad_le : ∀ (m : Nat) (t : List UInt8) (p n : Nat), t.length ≤ m → fS t p = .bad n → n ≤ p + t.length := by
  intro m
  induction m with
  | zero => intro t p n hm h; have : t = [] := List.eq_nil_of_length_eq_zero (by omega); subst this; rw [fS_nil] at h; cases h
  | succ m ih =>
    intro t p n hm h
    cases t with
    | nil => rw [fS_nil] at h; cases h
    | cons b t =>
      simp only [List.length_cons] at hm ⊢
      rw [fS_cons] at h
      split at h
      · have := ih t (p + 1) n (by omega) h; omega
      · split at h
        · cases h
        · split at h
          · cases hq : qS t with
            | ok text k =>
              rw [hq] at h
              simp only at h
              cases hr : fS (t.drop k) (p + 1 + k) with
              | ok l => rw [hr] at h; cases h
              | bad x =>
                rw [hr] at h
                simp [FR.cons] at h
                subst h
                have := ih (t.drop k) (p + 1 + k) x (by simp; omega) hr
                have hk := (qS_le t).1 text k hq
                rw [List.length_drop] at this; omega
            | bad k => rw [hq] at h; simp at h; have := (qS_le t).2 k hq; omega
            | stop => rw [hq] at h; simp at h; omega
          · rename_i h32 _ _
            cases hq : wS (b :: t) with
            | inl k =>
              rw [hq] at h
              simp only at h
              cases hr : fS (t.drop (k - 1)) (p + k) with
              | ok l => rw [hr] at h; cases h
              | bad x =>
                rw [hr] at h
                simp [FR.cons] at h
                subst h
                have := ih (t.drop (k - 1)) (p + k) x (by simp; omega) hr
                have hk := wS_le _ k hq
                have hk1 := wS_pos hq h32
                simp at hk
                rw [List.length_drop] at this; omega
            | inr k => rw [hq] at h; simp at h; have := wS_bad _ k hq; simp at this; omega
/-- What a line gives. -/
def lr (n : Nat) (y : List UInt8) : Option (T_api_Diag ⊕ T_api_Line) := if 1000 < y.length then some (.inl ⟨((n + 1 : Nat) : Int), 1001, 9⟩) else match fS y 0 with
  | .bad b => some (.inl ⟨((n + 1 : Nat) : Int), ((b + 1 : Nat) : Int), 4⟩)
  | .ok [] => none
  | .ok (f :: l) => some (.inr ⟨((n + 1 : Nat) : Int), f :: l⟩)
def accL (p : List T_api_Line × List T_api_Diag) : Option (T_api_Diag ⊕ T_api_Line) → List T_api_Line × List T_api_Diag
  | none => p
  | some (.inl d) => (p.1, p.2 ++ [d])
  | some (.inr l) => (p.1 ++ [l], p.2)
def allR : Nat → List (List UInt8) → List T_api_Line × List T_api_Diag → List T_api_Line × List T_api_Diag
  | _, [], p => p
  | n, y :: r, p => allR (n + 1) r (accL p (lr n y))
/-- The lines of a text and its diagnostics. -/
def splitS (src : List UInt8) : List T_api_Line × List T_api_Diag := if 262144 < src.length then ([], [⟨1, 1, 9⟩]) else ((allR 0 (spL src) ([], [])).1, (allR 0 (spL src) ([], [])).2.take 50)
theorem take50 (l : List T_api_Diag) (d : T_api_Diag) : (l ++ [d]).take 50 = if (l.take 50).length < 50 then l.take 50 ++ [d] else l.take 50 := by
  rw [List.length_take]
  by_cases h : l.length < 50
  · rw [if_pos (by omega), List.take_of_length_le (by simp; omega), List.take_of_length_le (by omega)]
  · rw [if_neg (by omega), List.take_append_of_le_length (by omega)]
theorem accL_len (p : List T_api_Line × List T_api_Diag) (x : Option (T_api_Diag ⊕ T_api_Line)) (n : Nat) (h1 : p.1.length ≤ n) (h2 : p.2.length ≤ n) : (accL p x).1.length ≤ n + 1 ∧ (accL p x).2.length ≤ n + 1 := by
  rcases x with _ | d | l <;> simp [accL] <;> omega
theorem lines_Split_loop (r : List (List UInt8)) (hr : r.length ≤ 300000) : iter (g_lines_Split_s1 r) ([], [], 0) = some ((allR 0 r ([], [])).1, (allR 0 r ([], [])).2.take 50) := by
  refine iter_of (fun x e => ∃ (i : Nat) (p : List T_api_Line × List T_api_Diag), x.2.2 = (i : Int) ∧ i ≤ r.length ∧ x.1 = p.1 ∧ x.2.1 = p.2.take 50 ∧ p.1.length ≤ i ∧ p.2.length ≤ i ∧ e = ((allR i (r.drop i) p).1, (allR i (r.drop i) p).2.take 50)) (fun x => r.length - x.2.2.toNat) ?_ (x := ([], [], 0)) ⟨0, ([], []), rfl, by omega, rfl, rfl, by simp, by simp, by simp⟩ (by show r.length - _ < _; omega)
  rintro ⟨out, dg, z⟩ e ⟨i, p, hz, hi, ho, hd, hl1, hl2, rfl⟩
  simp only at hz ho hd ⊢
  subst hz ho hd
  by_cases h : i < r.length
  · left
    have w1 := wrap_i64 ((i : Int) + 1) (by omega) (by omega)
    have hat := atI_nat h
    have hcnd : decide ((i : Int) < (r.length : Int)) = true := by simpa using h
    have hap1 : (p.1.length + 1) * 32 ≤ 140737488355328 := by omega
    have hlt : (p.2.take 50).length ≤ 50 := by rw [List.length_take]; omega
    have hap2 : ((p.2.take 50).length + 1) * 24 ≤ 140737488355328 := by omega
    have hn1 : ((i + 1 : Nat) : Int) = (i : Int) + 1 := by omega
    have key : ∃ (q1 : List T_api_Line) (q2 : List T_api_Diag), q1 = (accL p (lr i r[i])).1 ∧ q2 = (accL p (lr i r[i])).2.take 50 ∧ g_lines_Split_s1 r (p.1, p.2.take 50, (i : Int)) = some (.go (q1, q2, (i : Int) + 1)) := by
      simp only [g_lines_Split_s1, hcnd, if_true, hat, Option.bind_some, w1, if_pos hap1, if_pos hap2]
      by_cases hlong : 1000 < r[i].length
      · have e1 : decide (1000 < (r[i].length : Int)) = true := by simp; omega
        simp only [e1, if_true, lr, if_pos hlong, accL, take50]
        by_cases h50 : (p.2.take 50).length < 50
        · have e2 : decide (((p.2.take 50).length : Int) < 50) = true := by simp only [decide_eq_true_eq]; omega
          simp only [e2, if_true, if_pos h50, Option.bind_some, hn1]
          refine ⟨_, _, ?_, ?_, rfl⟩ <;> rfl
        · have e2 : decide (((p.2.take 50).length : Int) < 50) = false := by simp only [decide_eq_false_iff_not]; omega
          simp only [e2, Bool.false_eq_true, if_false, if_neg h50, Option.bind_some]
          refine ⟨_, _, ?_, ?_, rfl⟩ <;> rfl
      · have e1 : decide (1000 < (r[i].length : Int)) = false := by simp; omega
        have hf := lines_fields_eq r[i] (by omega)
        simp only [e1, Bool.false_eq_true, if_false, lr, if_neg hlong, hf, Option.bind_some]
        cases hfs : fS r[i] 0 with
        | bad n =>
          have e3 : decide (0 < (fresL (.bad n)).2) = true := decide_eq_true (by show (0 : Int) < ((n + 1 : Nat) : Int); omega)
          simp only [e3, if_true, accL, take50]
          simp only [fresL]
          by_cases h50 : (p.2.take 50).length < 50
          · have e2 : decide (((p.2.take 50).length : Int) < 50) = true := by simp only [decide_eq_true_eq]; omega
            simp only [e2, if_true, if_pos h50, Option.bind_some, hn1]
            refine ⟨_, _, ?_, ?_, rfl⟩ <;> rfl
          · have e2 : decide (((p.2.take 50).length : Int) < 50) = false := by simp only [decide_eq_false_iff_not]; omega
            simp only [e2, Bool.false_eq_true, if_false, if_neg h50, Option.bind_some]
            refine ⟨_, _, ?_, ?_, rfl⟩ <;> rfl
        | ok l =>
          have e3 : decide (0 < (fresL (.ok l)).2) = false := by simp [fresL]
          simp only [e3, Bool.false_eq_true, if_false]
          cases l with
          | nil =>
            have e4 : decide (0 < ((fresL (.ok [])).1.length : Int)) = false := by simp [fresL]
            simp only [e4, Bool.false_eq_true, if_false, accL, Option.bind_some]
            exact ⟨p.1, p.2.take 50, rfl, rfl, rfl⟩
          | cons f l =>
            have e4 : decide (0 < ((fresL (.ok (f :: l))).1.length : Int)) = true := by simp [fresL]
            simp only [e4, if_true, accL, hn1, Option.bind_some]
            refine ⟨_, _, ?_, ?_, rfl⟩ <;> rfl
    obtain ⟨q1, q2, hq1, hq2, hq⟩ := key
    refine ⟨_, hq, ⟨i + 1, accL p (lr i r[i]), by simp, by omega, hq1, hq2, (accL_len p _ i hl1 hl2).1, (accL_len p _ i hl1 hl2).2, ?_⟩, by simp; omega⟩
    rw [List.drop_eq_getElem_cons h]
    rfl
  · right
    obtain rfl : i = r.length := by omega
    simp [g_lines_Split_s1, allR]
theorem spL_len : ∀ (s : List UInt8), 1 ≤ (spL s).length ∧ (spL s).length ≤ s.length + 1
  | [] => by simp [spL]
  | b :: t => by
    have := spL_len t
    simp only [spL]
    split
    · simp; omega
    · split
      · rename_i h; rw [h] at this; simp at this
      · rename_i h; rw [h] at this; simp at this ⊢; omega
theorem lines_Split_eq (src : List UInt8) : g_lines_Split src = some (splitS src) := by
  unfold splitS
  by_cases h : 262144 < src.length
  · have e1 : decide (262144 < (src.length : Int)) = true := by simp; omega
    simp only [g_lines_Split, e1, if_true, if_pos h]
  · have e1 : decide (262144 < (src.length : Int)) = false := by simp; omega
    have hl := spL_len src
    simp only [g_lines_Split, e1, Bool.false_eq_true, if_false, if_neg h, g_strings_Split]
    rw [if_pos (by simp; omega), split_eq src.length src (Nat.le_refl _)]
    simp only [Option.bind_some, lines_Split_loop (spL src) (by omega)]
theorem ref_Split_loop (src : List UInt8) (hs : src.length ≤ 262144) : iter (g_ref07_Split_s1 src) ([], [], 1, 0, 0) = some (allR 0 (spL src) ([], [])) := by
  refine iter_of (fun x e => ∃ (n st i : Nat) (p : List T_api_Line × List T_api_Diag), x.2.2.1 = ((n + 1 : Nat) : Int) ∧ x.2.2.2.1 = (st : Int) ∧ x.2.2.2.2 = (i : Int) ∧ n ≤ i ∧ i ≤ src.length + 1 ∧ x.1 = p.1 ∧ x.2.1 = p.2 ∧ p.1.length ≤ n ∧ p.2.length ≤ n ∧
      (i ≤ src.length → st ≤ i ∧ (∀ (j : Nat) (hj : j < src.length), st ≤ j → j < i → src[j].toNat ≠ 10) ∧ e = allR n (spL (src.drop st)) p) ∧ (i = src.length + 1 → e = p)) (fun x => src.length + 1 - x.2.2.2.2.toNat) ?_ (x := ([], [], 1, 0, 0))
      ⟨0, 0, 0, ([], []), rfl, rfl, rfl, by omega, by omega, rfl, rfl, by simp, by simp, fun _ => ⟨by omega, fun j _ _ h => by omega, by simp⟩, fun h => by omega⟩ (by show src.length + 1 - _ < _; omega)
  rintro ⟨out, dg, nm, s0, z⟩ e ⟨n, st, i, p, hn, hst, hz, hni, hi, ho, hd, hl1, hl2, hA, hB⟩
  simp only at hn hst hz ho hd ⊢
  subst hn hst hz ho hd
  by_cases h : i ≤ src.length
  · left
    obtain ⟨hsti, hno, he⟩ := hA h
    have w1 := wrap_i64 ((i : Int) + 1) (by omega) (by omega)
    have w2 := wrap_i64 (((n + 1 : Nat) : Int) + 1) (by omega) (by omega)
    have hcnd : decide ((i : Int) ≤ (src.length : Int)) = true := by simpa using h
    have hap1 : (p.1.length + 1) * 32 ≤ 140737488355328 := by omega
    have hap2 : (p.2.length + 1) * 24 ≤ 140737488355328 := by omega
    have hn1 : ((i + 1 : Nat) : Int) = (i : Int) + 1 := by omega
    have hn2 : ((n + 1 + 1 : Nat) : Int) = ((n + 1 : Nat) : Int) + 1 := by omega
    have hsub := subI_nat (s := src) (i := st) (j := i) hsti h
    by_cases hnl : ∃ hh : i < src.length, src[i].toNat ≠ 10
    · obtain ⟨hh, h10⟩ := hnl
      have hat := atI_nat hh
      have hc2 : decide ((i : Int) < (src.length : Int)) = true := by simpa using hh
      have e1 : ((src[i].toNat : Int) != 10) = true := by simp; omega
      refine ⟨(p.1, p.2, ((n + 1 : Nat) : Int), (st : Int), (i : Int) + 1), ?_, ⟨n, st, i + 1, p, rfl, rfl, by simp, by omega, by omega, rfl, rfl, hl1, hl2, fun h' => ⟨by omega, fun j hj h1 h2 => ?_, he⟩, fun h' => by omega⟩, by simp; omega⟩
      · simp only [g_ref07_Split_s1, hcnd, if_true, hc2, hat, Option.bind_some, e1, w1]
      · by_cases hji : j = i
        · subst hji; exact h10
        · exact hno j hj h1 (by omega)
    · -- a line ends here
      have hv : (((if (decide ((i : Int) < (src.length : Int))) then ((atI src (i : Int)).bind fun b468 => (some ((b468.toNat : Int) != 10))) else (some false)) : Option (Bool))) = some false := by
        by_cases hh : i < src.length
        · have h10 : src[i].toNat = 10 := Classical.not_not.1 fun hx => hnl ⟨hh, hx⟩
          have hc2 : decide ((i : Int) < (src.length : Int)) = true := by simpa using hh
          simp only [hc2, if_true, atI_nat hh, Option.bind_some, h10]
          rfl
        · have hc2 : decide ((i : Int) < (src.length : Int)) = false := by simp; omega
          simp only [hc2, Bool.false_eq_true, if_false]
      have hnb : ∀ (j : Nat) (hj : j < i - st), ((src.drop st)[j]'(by simp; omega)).toNat ≠ 10 := by
        intro j hj
        rw [List.getElem_drop]
        exact hno (st + j) (by omega) (by omega) (by omega)
      have hsp : spL (src.drop st) = (src.drop st).take (i - st) :: (if i < src.length then spL (src.drop (i + 1)) else []) := by
        by_cases hh : i < src.length
        · have h10 : src[i].toNat = 10 := Classical.not_not.1 fun hx => hnl ⟨hh, hx⟩
          rw [if_pos hh]
          have := spL_hit (i - st) (src.drop st) (by simp; omega) (by rw [List.getElem_drop]; simpa [show st + (i - st) = i by omega] using h10) (fun j hj => hnb j hj)
          rw [this, List.drop_drop, show st + (i - st + 1) = i + 1 by omega]
        · rw [if_neg hh]
          obtain rfl : i = src.length := by omega
          rw [spL_no, List.take_of_length_le (by simp)]
          intro b hb
          obtain ⟨j, hj, rfl⟩ := List.getElem_of_mem hb
          exact hnb j (by simpa using hj)
      have key : ∃ q : List T_api_Line × List T_api_Diag, q = accL p (lr n ((src.drop st).take (i - st))) ∧ g_ref07_Split_s1 src (p.1, p.2, ((n + 1 : Nat) : Int), (st : Int), (i : Int)) = some (.go (q.1, q.2, ((n + 1 : Nat) : Int) + 1, (i : Int) + 1, (i : Int) + 1)) := by
        simp only [g_ref07_Split_s1, hcnd, if_true, hv, Option.bind_some, Bool.false_eq_true, if_false, hsub, w1, w2, if_pos hap1, if_pos hap2]
        generalize hy : (src.drop st).take (i - st) = y
        have hyl : y.length ≤ 262144 := by rw [← hy]; simp; omega
        by_cases hlong : 1000 < y.length
        · have e1 : decide (1000 < (y.length : Int)) = true := by simp; omega
          simp only [e1, if_true, lr, if_pos hlong, accL, Option.bind_some]
          exact ⟨_, rfl, rfl⟩
        · have e1 : decide (1000 < (y.length : Int)) = false := by simp; omega
          have hf := ref_fields_eq y (by omega)
          simp only [e1, Bool.false_eq_true, if_false, lr, if_neg hlong, hf, Option.bind_some]
          cases hfs : fS y 0 with
          | bad b =>
            have e3 : decide (0 ≤ (fresR (.bad b)).2) = true := decide_eq_true (Int.natCast_nonneg _)
            simp only [e3, if_true, accL, Option.bind_some]
            simp only [fresR]
            refine ⟨_, rfl, ?_⟩
            have hbl : b ≤ 4000000000000 := by
              have := fS_bad_le y.length y 0 b (Nat.le_refl _) hfs
              omega
            rw [wrap_i64 ((b : Int) + 1) (by omega) (by omega)]
            have : ((b + 1 : Nat) : Int) = (b : Int) + 1 := by omega
            rw [this]
          | ok l =>
            have e3 : decide (0 ≤ (fresR (.ok l)).2) = false := by simp [fresR]
            simp only [e3, Bool.false_eq_true, if_false]
            cases l with
            | nil =>
              have e4 : decide (0 < ((fresR (.ok [])).1.length : Int)) = false := by simp [fresR]
              simp only [e4, Bool.false_eq_true, if_false, accL, Option.bind_some]
              exact ⟨p, rfl, rfl⟩
            | cons f l =>
              have e4 : decide (0 < ((fresR (.ok (f :: l))).1.length : Int)) = true := by simp [fresR]
              simp only [e4, if_true, accL, Option.bind_some]
              exact ⟨_, rfl, rfl⟩
      obtain ⟨q, hq1, hq⟩ := key
      refine ⟨_, hq, ⟨n + 1, i + 1, i + 1, q, by simp only; omega, by simp, by simp, by omega, by omega, rfl, rfl, ?_, ?_, fun h' => ⟨by omega, fun j hj h1 h2 => by omega, ?_⟩, fun h' => ?_⟩, by simp; omega⟩
      · rw [hq1]; exact (accL_len p _ n hl1 hl2).1
      · rw [hq1]; exact (accL_len p _ n hl1 hl2).2
      · rw [he, hsp, if_pos (by omega), hq1]; rfl
      · rw [he, hsp, if_neg (by omega), hq1]; rfl
  · right
    have hc : decide ((i : Int) ≤ (src.length : Int)) = false := by simp; omega
    rw [hB (by omega)]
    simp only [g_ref07_Split_s1, hc, Bool.false_eq_true, if_false]
theorem ref_Split_eq (src : List UInt8) : g_ref07_Split src = some (splitS src) := by
  unfold splitS
  by_cases h : 262144 < src.length
  · have e1 : decide (262144 < (src.length : Int)) = true := by simp; omega
    simp only [g_ref07_Split, e1, if_true, if_pos h]
  · have e1 : decide (262144 < (src.length : Int)) = false := by simp; omega
    simp only [g_ref07_Split, e1, Bool.false_eq_true, if_false, if_neg h, ref_Split_loop src (by omega), Option.bind_some]
    generalize (allR 0 (spL src) ([], [])) = q
    have : subH q.2 (if 50 < ((q.2.length : Nat) : Int) then 50 else ((q.2.length : Nat) : Int)) = some (q.2.take 50) := by
      unfold subH
      by_cases h5 : 50 < ((q.2.length : Nat) : Int)
      · rw [if_pos h5, if_pos (by constructor <;> omega)]; rfl
      · rw [if_neg h5, if_pos (by constructor <;> omega)]
        rw [List.drop_zero, Int.toNat_natCast, Nat.sub_zero, List.take_of_length_le (Nat.le_refl _), List.take_of_length_le (by omega)]
    simp only [this, Option.bind_some]
theorem sameDiags_refl (a : List T_api_Diag) (ha : a.length ≤ 9223372036854775806) : g_law07_sameDiags a a = some true := by
  have : ∃ e, iter (g_law07_sameDiags_s1 a a) 0 = some e ∧ e = .inr () := by
    refine iter_cnt a.length (by omega) (fun _ => True) _ trivial (fun i h _ => ?_) (fun _ => ⟨.inr (), by simp [g_law07_sameDiags_s1], rfl⟩)
    left
    have hc : decide ((i : Int) < (a.length : Int)) = true := by simpa using h
    have w1 := wrap_i64 ((i : Int) + 1) (by omega) (by omega)
    simp [g_law07_sameDiags_s1, atI_nat h, h, w1]
  obtain ⟨e, he, rfl⟩ := this
  simp [g_law07_sameDiags, he]
theorem sameLines_refl (a : List T_api_Line) (ha : a.length ≤ 9223372036854775806) (hf : ∀ x ∈ a, x.Fields.length ≤ 9223372036854775806) : g_law07_sameLines a a = some true := by
  have : ∃ e, iter (g_law07_sameLines_s1 a a) 0 = some e ∧ e = .inr () := by
    refine iter_cnt a.length (by omega) (fun _ => True) _ trivial (fun i h _ => ?_) (fun _ => ⟨.inr (), by simp [g_law07_sameLines_s1], rfl⟩)
    left
    have w1 := wrap_i64 ((i : Int) + 1) (by omega) (by omega)
    have hfi := hf a[i] (List.getElem_mem h)
    have h2 : ∃ e, iter (g_law07_sameLines_s2 a (i : Int) a[i]) 0 = some e ∧ e = .inr () := by
      refine iter_cnt a[i].Fields.length (by omega) (fun _ => True) _ trivial (fun j hj _ => ?_) (fun _ => ⟨.inr (), by simp [g_law07_sameLines_s2], rfl⟩)
      left
      have w2 := wrap_i64 ((j : Int) + 1) (by omega) (by omega)
      simp [g_law07_sameLines_s2, atI_nat h, atI_nat hj, hj, w2]
    obtain ⟨e2, he2, rfl⟩ := h2
    simp [g_law07_sameLines_s1, atI_nat h, h, he2, w1]
  obtain ⟨e, he, rfl⟩ := this
  simp [g_law07_sameLines, he]
end Go.Proofs.YtncmdhkmbmkiiaaDoor
