/- Layer 07, plain: words and the fields of a line. -/
import Derived.Test.YtncmdhkmbmkiiaaDoorL07a
set_option linter.unusedSimpArgs false
set_option linter.unusedVariables false
namespace Go.Proofs.YtncmdhkmbmkiiaaDoor
set_option maxRecDepth 100000

def wB (b : UInt8) : Bool := decide (33 ≤ b.toNat) && decide (b.toNat ≤ 126) && (b.toNat != 34)
def wSh : Nat ⊕ Nat → Nat ⊕ Nat
  | .inl n => .inl (1 + n)
  | .inr n => .inr (1 + n)
/-- A word: its length, or where the first wrong byte stands. -/
def wS : List UInt8 → Nat ⊕ Nat
  | [] => .inl 0
  | b :: t => if b.toNat = 32 then .inl 0 else if wB b then wSh (wS t) else .inr 0
def wres (i : Nat) : Nat ⊕ Nat → Int × Int
  | .inl n => (((i + n : Nat) : Int), -1)
  | .inr n => (0, ((i + n : Nat) : Int))
theorem wres_sh (i : Nat) (r : Nat ⊕ Nat) : wres i (wSh r) = wres (i + 1) r := by
  cases r <;> simp [wres, wSh] <;> omega
def wex (len : Nat) : (Int × Int) ⊕ Unit → Int × Int
  | .inl p => p
  | .inr _ => ((len : Int), -1)
theorem isWord_eq (b : UInt8) : g_lines_isWord (b.toNat : Int) = some (wB b) := by
  have h1 : decide (32 < (b.toNat : Int)) = decide (33 ≤ b.toNat) := by simp only [decide_eq_decide]; omega
  have h2 : decide ((b.toNat : Int) < 127) = decide (b.toNat ≤ 126) := by simp only [decide_eq_decide]; omega
  have h3 : ((b.toNat : Int) != 34) = (b.toNat != 34) := by rw [Bool.eq_iff_iff]; simp; omega
  simp only [g_lines_isWord, wB, h1, h2, h3]
  cases decide (33 ≤ b.toNat) <;> cases decide (b.toNat ≤ 126) <;> rfl
theorem wordByte_eq (b : UInt8) : g_ref07_wordByte (b.toNat : Int) = some (wB b) := by
  have h1 : decide (33 ≤ (b.toNat : Int)) = decide (33 ≤ b.toNat) := by simp only [decide_eq_decide]; omega
  have h2 : decide ((b.toNat : Int) ≤ 126) = decide (b.toNat ≤ 126) := by simp only [decide_eq_decide]; omega
  have h3 : ((b.toNat : Int) != 34) = (b.toNat != 34) := by rw [Bool.eq_iff_iff]; simp; omega
  simp only [g_ref07_wordByte, wB, h1, h2, h3]
  cases decide (33 ≤ b.toNat) <;> cases decide (b.toNat ≤ 126) <;> rfl
theorem lines_word_eq (s : List UInt8) (hs : s.length ≤ 9223372036854775806) (h0 : ∀ h : 0 < s.length, s[0].toNat ≠ 35) : g_lines_word s = some (wres 0 (wS s)) := by
  have key : ∃ e, iter (g_lines_word_s1 s) 0 = some e ∧ wex s.length e = wres 0 (wS s) := by
    refine iter_cnt s.length (by omega) (fun i => wres i (wS (s.drop i)) = wres 0 (wS s)) _ (by simp) ?_ ?_
    · intro i h hI
      have w1 := wrap_i64 ((i : Int) + 1) (by omega) (by omega)
      have hcnd : decide ((i : Int) < (s.length : Int)) = true := by simpa using h
      have hat := atI_nat h
      have hb := u8lt s[i]
      rw [drop_cons h] at hI
      have h00 : i = 0 → s[i].toNat ≠ 35 := by rintro rfl; exact h0 h
      simp only [g_lines_word_s1, hcnd, if_true, hat, Option.bind_some, w1, isWord_eq]
      generalize s[i] = b at *
      by_cases c32 : b.toNat = 32
      · right
        refine ⟨.inl ((i : Int), -1), by simp [c32], ?_⟩
        rw [← hI]
        simp [wex, wS, c32, wres]
      · have e1 : ((b.toNat : Int) == 32) = false := by simp; omega
        cases hw : wB b with
        | true =>
          left
          have hz : ((i : Int) == 0 && (b.toNat : Int) == 35) = false := by
            by_cases hi0 : i = 0
            · have := h00 hi0; simp; omega
            · simp; omega
          refine ⟨?_, ?_⟩
          · simp only [e1, Bool.false_eq_true, if_false, if_true]
            by_cases hi0 : i = 0
            · have := h00 hi0
              subst hi0
              simp; omega
            · have : ((i : Int) == 0) = false := by simp; omega
              simp [this]
          · rw [← hI, ← wres_sh]
            simp only [wS, c32, if_false, hw, if_true]
        | false =>
          right
          refine ⟨.inl (0, (i : Int)), by simp [e1], ?_⟩
          rw [← hI]
          simp [wex, wS, c32, hw, wres]
    · intro hI
      refine ⟨.inr (), by simp [g_lines_word_s1], ?_⟩
      rw [← hI]
      simp [wex, wS, wres]
  obtain ⟨e, he, hw⟩ := key
  simp only [g_lines_word, he, Option.bind_some]
  rw [← hw]
  rcases e with e | e <;> rfl
def wout (i : Nat) : Nat ⊕ Nat → Int ⊕ Int
  | .inl n => .inr ((i + n : Nat) : Int)
  | .inr n => .inl ((i + n : Nat) : Int)
theorem wout_sh (i : Nat) (r : Nat ⊕ Nat) : wout i (wSh r) = wout (i + 1) r := by
  cases r <;> simp [wout, wSh] <;> omega
theorem ref_word_eq (s : List UInt8) (hs : s.length ≤ 9223372036854775806) (p : Nat) (hp : p ≤ s.length) : iter (g_ref07_fields_s3 s) (p : Int) = some (wout p (wS (s.drop p))) := by
  refine iter_of (fun x e => ∃ i : Nat, x = (i : Int) ∧ i ≤ s.length ∧ e = wout i (wS (s.drop i))) (fun x => s.length - x.toNat) ?_ (x := (p : Int)) ⟨p, rfl, hp, rfl⟩ (by show s.length - _ < _; omega)
  rintro x e ⟨i, rfl, hi, rfl⟩
  by_cases h : i < s.length
  · have w1 := wrap_i64 ((i : Int) + 1) (by omega) (by omega)
    have hcnd : decide ((i : Int) < (s.length : Int)) = true := by simpa using h
    have hat := atI_nat h
    have hb := u8lt s[i]
    rw [drop_cons h]
    simp only [g_ref07_fields_s3, hcnd, if_true, hat, Option.bind_some, w1, wordByte_eq]
    generalize s[i] = b at *
    by_cases c32 : b.toNat = 32
    · right; simp [c32, wS, wout]
    · have e1 : ((b.toNat : Int) != 32) = true := by simp; omega
      cases hw : wB b with
      | true =>
        left
        refine ⟨(i : Int) + 1, by simp [e1], ⟨i + 1, by omega, by omega, ?_⟩, by simp; omega⟩
        rw [← wout_sh]
        simp only [wS, c32, if_false, hw, if_true]
      | false =>
        right; simp [e1, wS, c32, hw, wout]
  · right
    obtain rfl : i = s.length := by omega
    simp [g_ref07_fields_s3, wS, wout]
theorem wS_le : ∀ (t : List UInt8) (n : Nat), wS t = .inl n → n ≤ t.length
  | [], n, h => by simp [wS] at h; omega
  | b :: t, n, h => by
    simp only [wS] at h
    split at h
    · simp at h; omega
    · split at h
      · cases ht : wS t with
        | inl m => rw [ht] at h; simp [wSh] at h; have := wS_le t m ht; simp; omega
        | inr m => rw [ht] at h; simp [wSh] at h
      · simp at h
theorem wS_bad : ∀ (t : List UInt8) (n : Nat), wS t = .inr n → n < t.length
  | [], n, h => by simp [wS] at h
  | b :: t, n, h => by
    simp only [wS] at h
    split at h
    · simp at h
    · split at h
      · cases ht : wS t with
        | inl m => rw [ht] at h; simp [wSh] at h
        | inr m => rw [ht] at h; simp [wSh] at h; have := wS_bad t m ht; simp; omega
      · simp at h; simp; omega
theorem wS_pos {b : UInt8} {t : List UInt8} {n : Nat} (h : wS (b :: t) = .inl n) (hb : b.toNat ≠ 32) : 1 ≤ n := by
  simp only [wS, if_neg hb] at h
  split at h
  · cases ht : wS t with
    | inl m => rw [ht] at h; simp [wSh] at h; omega
    | inr m => rw [ht] at h; simp [wSh] at h
  · simp at h
theorem qS_le : ∀ (t : List UInt8), (∀ text n, qS t = .ok text n → 1 ≤ n ∧ n ≤ t.length) ∧ (∀ n, qS t = .bad n → n ≤ t.length)
  | [] => by simp [qS_nil]
  | [b] => by
    rw [qS_cons]
    have := qS_le []
    refine ⟨fun text n h => ?_, fun n h => ?_⟩ <;> (repeat' split at h) <;> simp_all [QR.sh, qS_nil]
    all_goals omega
  | b :: c :: t => by
    have h1 := qS_le (c :: t)
    have h2 := qS_le t
    rw [qS_cons]
    refine ⟨fun text n h => ?_, fun n h => ?_⟩
    · split at h
      · split at h
        · simp at h
        · simp at h; simp; omega
      · split at h
        · simp only at h
          split at h
          · cases hq : qS t <;> rw [hq] at h <;> simp [QR.sh] at h
            have := h2.1 _ _ hq; simp; omega
          · split at h
            · cases hq : qS t <;> rw [hq] at h <;> simp [QR.sh] at h
              have := h2.1 _ _ hq; simp; omega
            · simp at h
        · split at h
          · simp at h
          · cases hq : qS (c :: t) <;> rw [hq] at h <;> simp [QR.sh] at h
            have := h1.1 _ _ hq; simp at this ⊢; omega
    · split at h
      · split at h
        · simp at h; simp; omega
        · simp at h
      · split at h
        · simp only at h
          split at h
          · cases hq : qS t <;> rw [hq] at h <;> simp [QR.sh] at h
            have := h2.2 _ hq; simp; omega
          · split at h
            · cases hq : qS t <;> rw [hq] at h <;> simp [QR.sh] at h
              have := h2.2 _ hq; simp; omega
            · simp at h; simp; omega
        · split at h
          · simp at h; simp; omega
          · cases hq : qS (c :: t) <;> rw [hq] at h <;> simp [QR.sh] at h
            have := h1.2 _ hq; simp at this ⊢; omega

/-- The fields of a line, or where its first wrong byte stands. -/
inductive FR where
  | ok (l : List T_api_Field)
  | bad (n : Nat)
def FR.cons (f : T_api_Field) : FR → FR
  | .ok l => .ok (f :: l)
  | .bad n => .bad n
def fS (t : List UInt8) (p : Nat) : FR :=
  match t with
  | [] => .ok []
  | b :: t' =>
    if b.toNat = 32 then fS t' (p + 1)
    else if b.toNat = 35 then .ok []
    else if b.toNat = 34 then
      match qS t' with
      | .ok text n => (fS (t'.drop n) (p + 1 + n)).cons ⟨text, ((p + 1 : Nat) : Int), true⟩
      | .bad n => .bad (p + 1 + n)
      | .stop => .bad (p + 1 + t'.length)
    else match wS (b :: t') with
      | .inl n => (fS (t'.drop (n - 1)) (p + n)).cons ⟨(b :: t').take n, ((p + 1 : Nat) : Int), false⟩
      | .inr n => .bad (p + n)
termination_by t.length
decreasing_by all_goals (simp; try omega)
theorem fS_nil (p : Nat) : fS [] p = .ok [] := by unfold fS; rfl
theorem fS_cons (b : UInt8) (t' : List UInt8) (p : Nat) : fS (b :: t') p = if b.toNat = 32 then fS t' (p + 1)
    else if b.toNat = 35 then .ok []
    else if b.toNat = 34 then
      match qS t' with
      | .ok text n => (fS (t'.drop n) (p + 1 + n)).cons ⟨text, ((p + 1 : Nat) : Int), true⟩
      | .bad n => .bad (p + 1 + n)
      | .stop => .bad (p + 1 + t'.length)
    else match wS (b :: t') with
      | .inl n => (fS (t'.drop (n - 1)) (p + n)).cons ⟨(b :: t').take n, ((p + 1 : Nat) : Int), false⟩
      | .inr n => .bad (p + n) := by
  conv => lhs; unfold fS
def ffinL (out : List T_api_Field) : FR → (List T_api_Field) ⊕ Int
  | .ok l => .inl (out ++ l)
  | .bad n => .inr (((n + 1 : Nat) : Int))
theorem ffinL_cons (out : List T_api_Field) (f : T_api_Field) (r : FR) : ffinL out (r.cons f) = ffinL (out ++ [f]) r := by
  cases r <;> simp [ffinL, FR.cons]
theorem subL_nat {s : List UInt8} {i : Nat} (h : i ≤ s.length) : subL s (i : Int) = some (s.drop i) := by
  unfold subL
  rw [if_pos (by omega), Int.toNat_natCast, List.take_of_length_le (by simp)]
theorem subI_nat {s : List UInt8} {i j : Nat} (h : i ≤ j) (hj : j ≤ s.length) : subI s (i : Int) (j : Int) = some ((s.drop i).take (j - i)) := by
  unfold subI
  rw [if_pos (by omega)]
  simp
theorem lines_fields_loop (s : List UInt8) (hs : s.length ≤ 4000000000000) : iter (g_lines_fields_s1 s) ([], 0) = some (ffinL [] (fS s 0)) := by
  refine iter_of (fun x e => ∃ i : Nat, x.2 = (i : Int) ∧ i ≤ s.length ∧ x.1.length ≤ i ∧ e = ffinL x.1 (fS (s.drop i) i)) (fun x => s.length - x.2.toNat) ?_ (x := ([], 0)) ⟨0, rfl, by omega, by simp, by simp⟩ (by show s.length - _ < _; omega)
  rintro ⟨out, z⟩ e ⟨i, hz, hi, ha, rfl⟩
  simp only at hz ha ⊢
  subst hz
  by_cases h : i < s.length
  · have w1 := wrap_i64 ((i : Int) + 1) (by omega) (by omega)
    have hat := atI_nat h
    have hb := u8lt s[i]
    have hcnd : decide ((i : Int) < (s.length : Int)) = true := by simpa using h
    have hap : (out.length + 1) * 32 ≤ 140737488355328 := by omega
    have hsl := subL_nat (s := s) (i := i) (by omega)
    have hd1 : (s.drop i).drop 1 = s.drop (i + 1) := by rw [List.drop_drop]
    have hq := lines_quoted_eq (s.drop i) (by simp; omega) (by simp; omega)
    rw [hd1] at hq
    have hdc := drop_cons h
    rw [hdc, fS_cons]
    simp only [g_lines_fields_s1, hcnd, if_true, hat, Option.bind_some, w1, hsl, hq, if_pos hap]
    by_cases c32 : s[i].toNat = 32
    · left
      refine ⟨(out, (i : Int) + 1), by simp [c32], ⟨i + 1, by simp, by omega, by simp; omega, ?_⟩, by simp; omega⟩
      rw [if_pos c32]
    · rw [if_neg c32]
      have e1 : ((s[i].toNat : Int) == 32) = false := by simp; omega
      simp only [e1, Bool.false_eq_true, if_false]
      by_cases c35 : s[i].toNat = 35
      · right
        simp [c35, ffinL]
      · rw [if_neg c35]
        have e2 : ((s[i].toNat : Int) == 35) = false := by simp; omega
        simp only [e2, Bool.false_eq_true, if_false]
        by_cases c34 : s[i].toNat = 34
        · rw [if_pos c34]
          have e3 : ((s[i].toNat : Int) == 34) = true := by simp; omega
          simp only [e3, if_true]
          have hle := qS_le (s.drop (i + 1))
          cases hr : qS (s.drop (i + 1)) with
          | ok text n =>
            left
            have := hle.1 text n hr
            rw [List.length_drop] at this
            have w2 := wrap_i64 ((i : Int) + ((1 + n : Nat) : Int)) (by omega) (by omega)
            refine ⟨(out ++ [⟨text, (i : Int) + 1, true⟩], (i : Int) + ((1 + n : Nat) : Int)), ?_, ⟨i + 1 + n, by simp; omega, by omega, by simp; omega, ?_⟩, by simp; omega⟩
            · simp only [qres, w2]
              simp
            · rw [ffinL_cons, List.drop_drop, show i + 1 + n = i + 1 + n from rfl]
              have : ((i + 1 : Nat) : Int) = (i : Int) + 1 := by omega
              rw [this]
          | bad n =>
            right
            have := hle.2 n hr
            rw [List.length_drop] at this
            have w2 := wrap_i64 ((i : Int) + ((1 + n : Nat) : Int)) (by omega) (by omega)
            have w3 := wrap_i64 ((i : Int) + ((1 + n : Nat) : Int) + 1) (by omega) (by omega)
            have hv : decide (0 ≤ (qres 1 (s.drop i).length (QR.bad n)).2.2) = true := decide_eq_true (Int.natCast_nonneg _)
            simp only [hv, if_true]
            simp only [qres, w2, w3, ffinL]
            congr 3
            omega
          | stop =>
            right
            have hl : (s.drop i).length = s.length - i := List.length_drop
            have w2 := wrap_i64 ((i : Int) + ((s.length - i : Nat) : Int)) (by omega) (by omega)
            have w3 := wrap_i64 ((i : Int) + ((s.length - i : Nat) : Int) + 1) (by omega) (by omega)
            have hv : decide (0 ≤ (qres 1 (s.drop i).length QR.stop).2.2) = true := decide_eq_true (Int.natCast_nonneg _)
            simp only [hv, if_true]
            simp only [qres, hl, w2, w3, ffinL]
            congr 3
            simp only [List.length_drop]
            omega
        · rw [if_neg c34]
          have e3 : ((s[i].toNat : Int) == 34) = false := by simp; omega
          have hw := lines_word_eq (s.drop i) (by simp; omega) (fun hh => by simpa using c35)
          simp only [e3, Bool.false_eq_true, if_false, hw, Option.bind_some]
          rw [← hdc]
          cases hr : wS (s.drop i) with
          | inl n =>
            left
            have hn := wS_le _ n hr
            have hn1 := wS_pos (by rw [hdc] at hr; exact hr) c32
            rw [List.length_drop] at hn
            have w2 := wrap_i64 ((i : Int) + ((0 + n : Nat) : Int)) (by omega) (by omega)
            have hsub : subI s (i : Int) ((i : Int) + ((0 + n : Nat) : Int)) = some ((s.drop i).take n) := by
              have := subI_nat (s := s) (i := i) (j := i + n) (by omega) (by omega)
              rw [show i + n - i = n by omega] at this
              rw [show (i : Int) + ((0 + n : Nat) : Int) = ((i + n : Nat) : Int) by omega]
              exact this
            refine ⟨(out ++ [⟨(s.drop i).take n, (i : Int) + 1, false⟩], (i : Int) + ((0 + n : Nat) : Int)), ?_, ⟨i + n, by simp, by omega, by simp; omega, ?_⟩, by simp; omega⟩
            · simp only [wres, w2, hsub, Option.bind_some]
              simp
            · rw [ffinL_cons, List.drop_drop, show i + 1 + (n - 1) = i + n by omega]
              have : ((i + 1 : Nat) : Int) = (i : Int) + 1 := by omega
              rw [this]
          | inr n =>
            right
            have hn := wS_bad _ n hr
            rw [List.length_drop] at hn
            have w2 := wrap_i64 ((i : Int) + ((0 + n : Nat) : Int)) (by omega) (by omega)
            have w3 := wrap_i64 ((i : Int) + ((0 + n : Nat) : Int) + 1) (by omega) (by omega)
            have w4 := wrap_i64 ((i : Int) + 0) (by omega) (by omega)
            have hsub : subI s (i : Int) ((i : Int) + 0) = some [] := by
              have := subI_nat (s := s) (i := i) (j := i) (by omega) (by omega)
              simpa using this
            have hv : decide (0 ≤ (wres 0 (.inr n)).2) = true := decide_eq_true (Int.natCast_nonneg _)
            simp only [hv, if_true]
            simp only [wres, w2, w3, w4, hsub, Option.bind_some, ffinL]
            congr 3
            omega
  · right
    obtain rfl : i = s.length := by omega
    simp [g_lines_fields_s1, fS_nil, ffinL]
def fresL : FR → (List T_api_Field) × Int
  | .ok l => (l, 0)
  | .bad n => ([], ((n + 1 : Nat) : Int))
theorem lines_fields_eq (s : List UInt8) (hs : s.length ≤ 4000000000000) : g_lines_fields s = some (fresL (fS s 0)) := by
  simp only [g_lines_fields, lines_fields_loop s hs, Option.bind_some]
  cases fS s 0 <;> simp [ffinL, fresL]
def fresR : FR → (List T_api_Field) × Int
  | .ok l => (l, -1)
  | .bad n => ([], (n : Int))
def ffinR (out : List T_api_Field) : FR → (List T_api_Field) × Int
  | .ok l => (out ++ l, -1)
  | .bad n => ([], (n : Int))
theorem ffinR_cons (out : List T_api_Field) (f : T_api_Field) (r : FR) : ffinR out (r.cons f) = ffinR (out ++ [f]) r := by
  cases r <;> simp [ffinR, FR.cons]
theorem ref_skip (s : List UInt8) (hs : s.length ≤ 9223372036854775806) (p : Nat) (hp : p ≤ s.length) : ∃ j : Nat, iter (g_ref07_fields_s2 s) (p : Int) = some (j : Int) ∧ p ≤ j ∧ j ≤ s.length ∧ fS (s.drop j) j = fS (s.drop p) p ∧ ∀ h : j < s.length, s[j].toNat ≠ 32 := by
  have := iter_post (step := g_ref07_fields_s2 s) (fun x => ∃ i : Nat, x = (i : Int) ∧ p ≤ i ∧ i ≤ s.length ∧ fS (s.drop i) i = fS (s.drop p) p) (fun x => s.length - x.toNat)
    (fun e => ∃ j : Nat, e = (j : Int) ∧ p ≤ j ∧ j ≤ s.length ∧ fS (s.drop j) j = fS (s.drop p) p ∧ ∀ h : j < s.length, s[j].toNat ≠ 32) (x := (p : Int)) ⟨p, rfl, Nat.le_refl _, hp, rfl⟩ (by show s.length - _ < _; omega) ?_
  · obtain ⟨e, he, j, rfl, h⟩ := this
    exact ⟨j, he, h⟩
  · rintro x ⟨i, rfl, hpi, hi, hf⟩
    by_cases h : i < s.length
    · have w1 := wrap_i64 ((i : Int) + 1) (by omega) (by omega)
      have hat := atI_nat h
      have hcnd : decide ((i : Int) < (s.length : Int)) = true := by simpa using h
      simp only [g_ref07_fields_s2, hcnd, if_true, hat, Option.bind_some, w1]
      by_cases c32 : s[i].toNat = 32
      · left
        refine ⟨(i : Int) + 1, by simp [c32], ⟨i + 1, by omega, by omega, by omega, ?_⟩, by simp; omega⟩
        rw [← hf, drop_cons h, fS_cons, if_pos c32]
      · right
        have e1 : ((s[i].toNat : Int) == 32) = false := by simp; omega
        exact ⟨(i : Int), by simp [e1], i, rfl, hpi, hi, hf, fun _ => c32⟩
    · right
      obtain rfl : i = s.length := by omega
      exact ⟨(s.length : Int), by simp [g_ref07_fields_s2], s.length, rfl, hpi, hi, hf, fun h' => absurd h' h⟩
theorem ref_fields_loop (s : List UInt8) (hs : s.length ≤ 4000000000000) : iter (g_ref07_fields_s1 s) ([], 0) = some (ffinR [] (fS s 0)) := by
  refine iter_of (fun x e => ∃ i : Nat, x.2 = (i : Int) ∧ i ≤ s.length ∧ x.1.length ≤ i ∧ e = ffinR x.1 (fS (s.drop i) i)) (fun x => s.length - x.2.toNat) ?_ (x := ([], 0)) ⟨0, rfl, by omega, by simp, by simp⟩ (by show s.length - _ < _; omega)
  rintro ⟨out, z⟩ e ⟨i0, hz, hi0, ha0, rfl⟩
  simp only at hz ha0 ⊢
  subst hz
  obtain ⟨i, hit, hi0i, hi, hfs, hne⟩ := ref_skip s (by omega) i0 hi0
  rw [← hfs]
  have ha : out.length ≤ i := by omega
  by_cases h : i < s.length
  · have w1 := wrap_i64 ((i : Int) + 1) (by omega) (by omega)
    have hat := atI_nat h
    have hb := u8lt s[i]
    have c32 := hne h
    have hcnd : decide ((s.length : Int) ≤ (i : Int)) = false := by simp; omega
    have hap : (out.length + 1) * 32 ≤ 140737488355328 := by omega
    have hq := ref_quoted_eq s (by omega) i h
    have hw := ref_word_eq s (by omega) i hi
    have hdc := drop_cons h
    rw [hdc, fS_cons, if_neg c32]
    simp only [g_ref07_fields_s1, hit, hcnd, hat, Option.bind_some, w1, hq, hw, if_pos hap, Bool.false_eq_true, if_false]
    by_cases c35 : s[i].toNat = 35
    · right
      simp [c35, ffinR]
    · rw [if_neg c35]
      have e2 : ((s[i].toNat : Int) == 35) = false := by simp; omega
      simp only [e2, Bool.false_eq_true, if_false]
      by_cases c34 : s[i].toNat = 34
      · rw [if_pos c34]
        have e3 : ((s[i].toNat : Int) == 34) = true := by simp; omega
        simp only [e3, if_true]
        have hle := qS_le (s.drop (i + 1))
        cases hr : qS (s.drop (i + 1)) with
        | ok text n =>
          left
          have := hle.1 text n hr
          rw [List.length_drop] at this
          refine ⟨(out ++ [⟨text, (i : Int) + 1, true⟩], ((i + 1 + n : Nat) : Int)), ?_, ⟨i + 1 + n, rfl, by omega, by simp; omega, ?_⟩, by simp; omega⟩
          · simp only [qres]
            simp
          · rw [ffinR_cons, List.drop_drop]
            have : ((i + 1 : Nat) : Int) = (i : Int) + 1 := by omega
            rw [this]
        | bad n =>
          right
          have hv : decide (0 ≤ (qres (i + 1) s.length (QR.bad n)).2.2) = true := decide_eq_true (Int.natCast_nonneg _)
          simp only [hv, if_true]
          simp only [qres, ffinR]
        | stop =>
          right
          have hv : decide (0 ≤ (qres (i + 1) s.length QR.stop).2.2) = true := decide_eq_true (Int.natCast_nonneg _)
          simp only [hv, if_true]
          simp only [qres, ffinR]
          congr 3
          simp only [List.length_drop]
          omega
      · rw [if_neg c34]
        have e3 : ((s[i].toNat : Int) == 34) = false := by simp; omega
        simp only [e3, Bool.false_eq_true, if_false]
        rw [← hdc]
        cases hr : wS (s.drop i) with
        | inl n =>
          left
          have hn := wS_le _ n hr
          have hn1 := wS_pos (by rw [hdc] at hr; exact hr) c32
          rw [List.length_drop] at hn
          have hsub := subI_nat (s := s) (i := i) (j := i + n) (by omega) (by omega)
          rw [show i + n - i = n by omega] at hsub
          refine ⟨(out ++ [⟨(s.drop i).take n, (i : Int) + 1, false⟩], ((i + n : Nat) : Int)), ?_, ⟨i + n, rfl, by omega, by simp; omega, ?_⟩, by simp; omega⟩
          · simp only [wout, hsub, Option.bind_some]
          · rw [ffinR_cons, List.drop_drop, show i + 1 + (n - 1) = i + n by omega]
            have : ((i + 1 : Nat) : Int) = (i : Int) + 1 := by omega
            rw [this]
        | inr n =>
          right
          simp only [wout, ffinR]
  · right
    obtain rfl : i = s.length := by omega
    simp [g_ref07_fields_s1, hit, fS_nil, ffinR]
theorem ref_fields_eq (s : List UInt8) (hs : s.length ≤ 4000000000000) : g_ref07_fields s = some (fresR (fS s 0)) := by
  simp only [g_ref07_fields, ref_fields_loop s hs, Option.bind_some]
  cases fS s 0 <;> simp [ffinR, fresR]
end Go.Proofs.YtncmdhkmbmkiiaaDoor
