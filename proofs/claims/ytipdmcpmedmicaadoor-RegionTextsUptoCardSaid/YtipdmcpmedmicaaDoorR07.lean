/- Plain laws: no program in sight. (Picked out of texts of mine by pick.py.) -/
import Derived.Test.YtipdmcpmedmicaaDoorFwZ
import Derived.Test.YtipdmcpmedmicaaDoorTD
import Derived.Lib.ItoaMem
import Derived.Lib.ItoaLen
set_option linter.unusedSimpArgs false
set_option linter.unusedVariables false
set_option linter.unusedSimpArgs false
set_option linter.unusedVariables false
namespace Go.Proofs.YtipdmcpmedmicaaDoor
set_option maxRecDepth 100000

/-- What a quoted string is read as, behind its first quote: the text and how many bytes; or where the first wrong byte stands; or it does not end. -/
inductive QR where
  | ok (text : List UInt8) (n : Nat)
  | bad (n : Nat)
  | stop
def QR.sh (k : Nat) (pre : List UInt8) : QR → QR
  | .ok t n => .ok (pre ++ t) (k + n)
  | .bad n => .bad (k + n)
  | .stop => .stop
def qS : List UInt8 → QR
  | [] => .stop
  | b :: t =>
    if b.toNat = 34 then (if t.head?.any (fun c => c.toNat != 32) then .bad 1 else .ok [] 1)
    else if b.toNat = 92 then
      match t with
      | [] => .bad 0
      | c :: t' => if c.toNat = 34 ∨ c.toNat = 92 then (qS t').sh 2 [c] else if c.toNat = 110 then (qS t').sh 2 [10] else .bad 0
    else if b.toNat < 32 ∨ b.toNat = 127 then .bad 0
    else (qS t).sh 1 [b]
theorem qS_nil : qS [] = .stop := by unfold qS; rfl
theorem qS_cons (b : UInt8) (t : List UInt8) : qS (b :: t) = if b.toNat = 34 then (if t.head?.any (fun c => c.toNat != 32) then .bad 1 else .ok [] 1)
    else if b.toNat = 92 then
      match t with
      | [] => .bad 0
      | c :: t' => if c.toNat = 34 ∨ c.toNat = 92 then (qS t').sh 2 [c] else if c.toNat = 110 then (qS t').sh 2 [10] else .bad 0
    else if b.toNat < 32 ∨ b.toNat = 127 then .bad 0
    else (qS t).sh 1 [b] := by
  cases t <;> (conv => lhs; unfold qS)
theorem drop_cons {s : List UInt8} {i : Nat} (h : i < s.length) : s.drop i = s[i] :: s.drop (i + 1) := List.drop_eq_getElem_cons h
theorem u8_back (b : UInt8) : UInt8.ofNat ((b.toNat : Int).toNat) = b := by simp
theorem bytesOf_snoc (l : List Int) (b : UInt8) : bytesOf (l ++ [(b.toNat : Int)]) = bytesOf l ++ [b] := by simp [bytesOf]
theorem ib3 (b : UInt8) : g_strings_IndexByte [34, 92, 110] (b.toNat : Int) = some (if b.toNat = 34 then 0 else if b.toNat = 92 then 1 else if b.toNat = 110 then 2 else -1) := by
  have hb : (b.toNat : Int).toNat.toUInt8 = b := by simp
  have key : ∀ c : UInt8, (c == b) = decide (b.toNat = c.toNat) := by
    intro c
    by_cases h : b.toNat = c.toNat
    · have : c = b := UInt8.toNat_inj.1 h.symm
      simp [this]
    · have : c ≠ b := fun e => h (by rw [e])
      simp [this, h]
  simp only [g_strings_IndexByte, hb, Lib.indexByte, key]
  have h1 : (34 : UInt8).toNat = 34 := rfl
  have h2 : (92 : UInt8).toNat = 92 := rfl
  have h3 : (110 : UInt8).toNat = 110 := rfl
  simp only [h1, h2, h3]
  grind
def qfinL (acc : List Int) (i : Nat) : QR → ((List UInt8) × Int × Int) ⊕ Unit
  | .ok t n => .inl (bytesOf acc ++ t, ((i + n : Nat) : Int), -1)
  | .bad n => .inl ([], 0, ((i + n : Nat) : Int))
  | .stop => .inr ()
theorem qfinL_sh (acc : List Int) (i k : Nat) (x : Int) (b : UInt8) (hx : UInt8.ofNat x.toNat = b) (r : QR) : qfinL acc i (r.sh k [b]) = qfinL (acc ++ [x]) (i + k) r := by
  cases r <;> simp [qfinL, QR.sh, bytesOf, hx] <;> omega
def qres (k : Nat) (len : Nat) : QR → (List UInt8) × Int × Int
  | .ok t n => (t, ((k + n : Nat) : Int), -1)
  | .bad n => ([], 0, ((k + n : Nat) : Int))
  | .stop => ([], 0, (len : Int))
def qfinR (acc : List UInt8) (i : Nat) : QR → ((List UInt8) × Int × Int) ⊕ Unit
  | .ok t n => .inl (acc ++ t, ((i + n : Nat) : Int), -1)
  | .bad n => .inl ([], 0, ((i + n : Nat) : Int))
  | .stop => .inr ()
theorem qfinR_sh (acc : List UInt8) (i k : Nat) (b : UInt8) (r : QR) : qfinR acc i (r.sh k [b]) = qfinR (acc ++ [b]) (i + k) r := by
  cases r <;> simp [qfinR, QR.sh] <;> omega
theorem sub1 {s : List UInt8} {i : Nat} (h : i < s.length) : subI s (i : Int) ((i : Int) + 1) = some [s[i]] := by
  unfold subI
  rw [if_pos (by omega)]
  have : ((i : Int) + 1).toNat - (i : Int).toNat = 1 := by omega
  rw [this, Int.toNat_natCast, drop_cons h, List.take_succ_cons, List.take_zero]
theorem ref_quoted_loop (s : List UInt8) (hs : s.length ≤ 9223372036854775805) (p : Nat) (hp : p < s.length) : iter (g_ref07_quoted_s1 s) (((p + 1 : Nat) : Int), []) = some (qfinR [] (p + 1) (qS (s.drop (p + 1)))) := by
  refine iter_of (fun x e => ∃ i : Nat, x.1 = (i : Int) ∧ i ≤ s.length ∧ x.2.length ≤ i ∧ e = qfinR x.2 i (qS (s.drop i))) (fun x => s.length - x.1.toNat) ?_ (x := (((p + 1 : Nat) : Int), [])) ⟨p + 1, rfl, by omega, by simp, rfl⟩ (by show s.length - _ < _; omega)
  rintro ⟨z, acc⟩ e ⟨i, hz, hi, ha, rfl⟩
  simp only at hz ha ⊢
  subst hz
  by_cases h : i < s.length
  · have w1 := wrap_i64 ((i : Int) + 1) (by omega) (by omega)
    have w2 := wrap_i64 ((i : Int) + 2) (by omega) (by omega)
    have hat := atI_nat h
    have hb := u8lt s[i]
    have hsub := sub1 h
    rw [drop_cons h]
    have hcnd : decide ((i : Int) < (s.length : Int)) = true := by simpa using h
    have hap : acc.length + 1 ≤ 9223372036854775807 := by omega
    simp only [g_ref07_quoted_s1, hcnd, if_true, hat, Option.bind_some, w1, w2, hsub, List.length_cons, List.length_nil, Nat.zero_add, if_pos hap]
    generalize hB : s[i] = b at *
    by_cases c34 : b.toNat = 34
    · right
      have q : qS (b :: s.drop (i + 1)) = (if (s.drop (i + 1)).head?.any (fun c => c.toNat != 32) then .bad 1 else .ok [] 1) := by simp only [qS_cons, c34, if_true]
      have e1 : ((b.toNat : Int) == 34) = true := by simp [c34]
      rw [q]
      simp only [e1, if_true]
      by_cases h2 : i + 1 < s.length
      · have hat2 : atI s ((i : Int) + 1) = some s[i + 1] := by have := atI_nat h2; simpa using this
        have hcnd2 : decide ((i : Int) + 1 < (s.length : Int)) = true := by simp; omega
        rw [drop_cons h2]
        simp only [hcnd2, if_true, hat2, Option.bind_some, List.head?_cons, Option.any_some]
        by_cases c32 : s[i + 1].toNat = 32
        · simp [c32, qfinR]
        · have : ((s[i + 1].toNat : Int) != 32) = true := by simp; omega
          simp [c32, qfinR, this]
      · have hcnd2 : decide ((i : Int) + 1 < (s.length : Int)) = false := by simp; omega
        have : s.drop (i + 1) = [] := List.drop_eq_nil_of_le (by omega)
        simp only [hcnd2, Bool.false_eq_true, if_false, Option.bind_some, this]
        simp [qfinR]
    · have e1 : ((b.toNat : Int) == 34) = false := by simp; omega
      simp only [e1, Bool.false_eq_true, if_false]
      by_cases cc : b.toNat < 32 ∨ b.toNat = 127
      · right
        have c92 : ¬ b.toNat = 92 := by omega
        have q : qS (b :: s.drop (i + 1)) = .bad 0 := by simp only [qS_cons, c34, c92, cc, if_true, if_false]
        rw [q]
        rcases cc with c | c
        · have : decide ((b.toNat : Int) < 32) = true := by simp; omega
          simp [this, qfinR]
        · simp [c, qfinR]
      · have f1 : decide ((b.toNat : Int) < 32) = false := by simp; omega
        have f2 : ((b.toNat : Int) == 127) = false := by simp; omega
        simp only [f1, f2, Bool.false_eq_true, if_false, Option.bind_some]
        by_cases c92 : b.toNat = 92
        · have e2 : ((b.toNat : Int) != 92) = false := by simp [c92]
          simp only [e2, Bool.false_eq_true, if_false]
          by_cases h2 : i + 1 < s.length
          · have hat2 : atI s ((i : Int) + 1) = some s[i + 1] := by have := atI_nat h2; simpa using this
            have hsub2 : subI s ((i : Int) + 1) ((i : Int) + 2) = some [s[i + 1]] := by
              have := sub1 h2
              have e : (((i + 1 : Nat) : Int)) = (i : Int) + 1 := by omega
              rw [e] at this
              rw [show (i : Int) + 2 = (i : Int) + 1 + 1 by omega]
              exact this
            have e3 : decide ((s.length : Int) ≤ (i : Int) + 1) = false := by simp; omega
            have q : qS (b :: s.drop (i + 1)) = (if s[i + 1].toNat = 34 ∨ s[i + 1].toNat = 92 then (qS (s.drop (i + 2))).sh 2 [s[i + 1]] else if s[i + 1].toNat = 110 then (qS (s.drop (i + 2))).sh 2 [10] else .bad 0) := by
              rw [drop_cons h2]; simp only [qS_cons, c34, c92, if_true, if_false]; rfl
            rw [q]
            simp only [e3, Bool.false_eq_true, if_false, hat2, Option.bind_some, hsub2, List.length_cons, List.length_nil, Nat.zero_add, if_pos hap]
            have hc := u8lt s[i + 1]
            generalize s[i + 1] = c at *
            by_cases d1 : c.toNat = 34 ∨ c.toNat = 92
            · left
              refine ⟨((i : Int) + 2, acc ++ [c]), ?_, ⟨i + 2, by simp, by omega, by simp; omega, ?_⟩, by simp; omega⟩
              · rcases d1 with d | d <;> simp [d]
              · rw [if_pos d1]
                exact qfinR_sh acc i 2 c _
            · by_cases d2 : c.toNat = 110
              · left
                refine ⟨((i : Int) + 2, acc ++ [10]), ?_, ⟨i + 2, by simp, by omega, by simp; omega, ?_⟩, by simp; omega⟩
                · simp [d2]
                · rw [if_neg d1, if_pos d2]
                  exact qfinR_sh acc i 2 10 _
              · right
                rw [if_neg d1, if_neg d2]
                have d3 : ¬ c.toNat = 34 := fun h => d1 (.inl h)
                have d4 : ¬ c.toNat = 92 := fun h => d1 (.inr h)
                have g1 : ((c.toNat : Int) == 34) = false := by simp; omega
                have g2 : ((c.toNat : Int) == 92) = false := by simp; omega
                have g3 : ((c.toNat : Int) == 110) = false := by simp; omega
                simp [g1, g2, g3, qfinR]
          · right
            have e3 : decide ((s.length : Int) ≤ (i : Int) + 1) = true := by simp; omega
            have : s.drop (i + 1) = [] := List.drop_eq_nil_of_le (by omega)
            simp [e3, this, qS_cons, c92, qfinR]
        · have e2 : ((b.toNat : Int) != 92) = true := by simp; omega
          left
          have q : qS (b :: s.drop (i + 1)) = (qS (s.drop (i + 1))).sh 1 [b] := by simp only [qS_cons, c34, c92, cc, if_false]
          rw [q]
          refine ⟨((i : Int) + 1, acc ++ [b]), ?_, ⟨i + 1, by simp, by omega, by simp; omega, ?_⟩, by simp; omega⟩
          · simp [e2]
          · exact qfinR_sh acc i 1 b _
  · right
    obtain rfl : i = s.length := by omega
    simp [g_ref07_quoted_s1, qS_nil, qfinR]
theorem ref_quoted_eq (s : List UInt8) (hs : s.length ≤ 9223372036854775805) (p : Nat) (hp : p < s.length) : g_ref07_quoted s (p : Int) = some (qres (p + 1) s.length (qS (s.drop (p + 1)))) := by
  have w1 := wrap_i64 ((p : Int) + 1) (by omega) (by omega)
  have := ref_quoted_loop s hs p hp
  have e : (((p + 1 : Nat)) : Int) = (p : Int) + 1 := by omega
  rw [e] at this
  simp only [g_ref07_quoted, w1, this, Option.bind_some]
  cases qS (s.drop (p + 1)) <;> simp [qfinR, qres]
def wB (b : UInt8) : Bool := decide (33 ≤ b.toNat) && decide (b.toNat ≤ 126) && (b.toNat != 34)
def wSh : Nat ⊕ Nat → Nat ⊕ Nat
  | .inl n => .inl (1 + n)
  | .inr n => .inr (1 + n)
/-- A word: its length, or where the first wrong byte stands. -/
def wS : List UInt8 → Nat ⊕ Nat
  | [] => .inl 0
  | b :: t => if b.toNat = 32 then .inl 0 else if wB b then wSh (wS t) else .inr 0
def wres (i : Nat) : Nat ⊕ Nat → Int × Int
  | .inl n => (((i + n : Nat) : Int), -1)
  | .inr n => (0, ((i + n : Nat) : Int))
theorem wres_sh (i : Nat) (r : Nat ⊕ Nat) : wres i (wSh r) = wres (i + 1) r := by
  cases r <;> simp [wres, wSh] <;> omega
def wex (len : Nat) : (Int × Int) ⊕ Unit → Int × Int
  | .inl p => p
  | .inr _ => ((len : Int), -1)
theorem wordByte_eq (b : UInt8) : g_ref07_wordByte (b.toNat : Int) = some (wB b) := by
  have h1 : decide (33 ≤ (b.toNat : Int)) = decide (33 ≤ b.toNat) := by simp only [decide_eq_decide]; omega
  have h2 : decide ((b.toNat : Int) ≤ 126) = decide (b.toNat ≤ 126) := by simp only [decide_eq_decide]; omega
  have h3 : ((b.toNat : Int) != 34) = (b.toNat != 34) := by rw [Bool.eq_iff_iff]; simp; omega
  simp only [g_ref07_wordByte, wB, h1, h2, h3]
  cases decide (33 ≤ b.toNat) <;> cases decide (b.toNat ≤ 126) <;> rfl
def wout (i : Nat) : Nat ⊕ Nat → Int ⊕ Int
  | .inl n => .inr ((i + n : Nat) : Int)
  | .inr n => .inl ((i + n : Nat) : Int)
theorem wout_sh (i : Nat) (r : Nat ⊕ Nat) : wout i (wSh r) = wout (i + 1) r := by
  cases r <;> simp [wout, wSh] <;> omega
theorem ref_word_eq (s : List UInt8) (hs : s.length ≤ 9223372036854775806) (p : Nat) (hp : p ≤ s.length) : iter (g_ref07_fields_s3 s) (p : Int) = some (wout p (wS (s.drop p))) := by
  refine iter_of (fun x e => ∃ i : Nat, x = (i : Int) ∧ i ≤ s.length ∧ e = wout i (wS (s.drop i))) (fun x => s.length - x.toNat) ?_ (x := (p : Int)) ⟨p, rfl, hp, rfl⟩ (by show s.length - _ < _; omega)
  rintro x e ⟨i, rfl, hi, rfl⟩
  by_cases h : i < s.length
  · have w1 := wrap_i64 ((i : Int) + 1) (by omega) (by omega)
    have hcnd : decide ((i : Int) < (s.length : Int)) = true := by simpa using h
    have hat := atI_nat h
    have hb := u8lt s[i]
    rw [drop_cons h]
    simp only [g_ref07_fields_s3, hcnd, if_true, hat, Option.bind_some, w1, wordByte_eq]
    generalize s[i] = b at *
    by_cases c32 : b.toNat = 32
    · right; simp [c32, wS, wout]
    · have e1 : ((b.toNat : Int) != 32) = true := by simp; omega
      cases hw : wB b with
      | true =>
        left
        refine ⟨(i : Int) + 1, by simp [e1], ⟨i + 1, by omega, by omega, ?_⟩, by simp; omega⟩
        rw [← wout_sh]
        simp only [wS, c32, if_false, hw, if_true]
      | false =>
        right; simp [e1, wS, c32, hw, wout]
  · right
    obtain rfl : i = s.length := by omega
    simp [g_ref07_fields_s3, wS, wout]
theorem wS_le : ∀ (t : List UInt8) (n : Nat), wS t = .inl n → n ≤ t.length
  | [], n, h => by simp [wS] at h; omega
  | b :: t, n, h => by
    simp only [wS] at h
    split at h
    · simp at h; omega
    · split at h
      · cases ht : wS t with
        | inl m => rw [ht] at h; simp [wSh] at h; have := wS_le t m ht; simp; omega
        | inr m => rw [ht] at h; simp [wSh] at h
      · simp at h
theorem wS_bad : ∀ (t : List UInt8) (n : Nat), wS t = .inr n → n < t.length
  | [], n, h => by simp [wS] at h
  | b :: t, n, h => by
    simp only [wS] at h
    split at h
    · simp at h
    · split at h
      · cases ht : wS t with
        | inl m => rw [ht] at h; simp [wSh] at h
        | inr m => rw [ht] at h; simp [wSh] at h; have := wS_bad t m ht; simp; omega
      · simp at h; simp; omega
theorem wS_pos {b : UInt8} {t : List UInt8} {n : Nat} (h : wS (b :: t) = .inl n) (hb : b.toNat ≠ 32) : 1 ≤ n := by
  simp only [wS, if_neg hb] at h
  split at h
  · cases ht : wS t with
    | inl m => rw [ht] at h; simp [wSh] at h; omega
    | inr m => rw [ht] at h; simp [wSh] at h
  · simp at h
theorem qS_le : ∀ (t : List UInt8), (∀ text n, qS t = .ok text n → 1 ≤ n ∧ n ≤ t.length) ∧ (∀ n, qS t = .bad n → n ≤ t.length)
  | [] => by simp [qS_nil]
  | [b] => by
    rw [qS_cons]
    have := qS_le []
    refine ⟨fun text n h => ?_, fun n h => ?_⟩ <;> (repeat' split at h) <;> simp_all [QR.sh, qS_nil]
    all_goals omega
  | b :: c :: t => by
    have h1 := qS_le (c :: t)
    have h2 := qS_le t
    rw [qS_cons]
    refine ⟨fun text n h => ?_, fun n h => ?_⟩
    · split at h
      · split at h
        · simp at h
        · simp at h; simp; omega
      · split at h
        · simp only at h
          split at h
          · cases hq : qS t <;> rw [hq] at h <;> simp [QR.sh] at h
            have := h2.1 _ _ hq; simp; omega
          · split at h
            · cases hq : qS t <;> rw [hq] at h <;> simp [QR.sh] at h
              have := h2.1 _ _ hq; simp; omega
            · simp at h
        · split at h
          · simp at h
          · cases hq : qS (c :: t) <;> rw [hq] at h <;> simp [QR.sh] at h
            have := h1.1 _ _ hq; simp at this ⊢; omega
    · split at h
      · split at h
        · simp at h; simp; omega
        · simp at h
      · split at h
        · simp only at h
          split at h
          · cases hq : qS t <;> rw [hq] at h <;> simp [QR.sh] at h
            have := h2.2 _ hq; simp; omega
          · split at h
            · cases hq : qS t <;> rw [hq] at h <;> simp [QR.sh] at h
              have := h2.2 _ hq; simp; omega
            · simp at h; simp; omega
        · split at h
          · simp at h; simp; omega
          · cases hq : qS (c :: t) <;> rw [hq] at h <;> simp [QR.sh] at h
            have := h1.2 _ hq; simp at this ⊢; omega

/-- The fields of a line, or where its first wrong byte stands. -/
inductive FR where
  | ok (l : List T_api_Field)
  | bad (n : Nat)
def FR.cons (f : T_api_Field) : FR → FR
  | .ok l => .ok (f :: l)
  | .bad n => .bad n
def fS (t : List UInt8) (p : Nat) : FR :=
  match t with
  | [] => .ok []
  | b :: t' =>
    if b.toNat = 32 then fS t' (p + 1)
    else if b.toNat = 35 then .ok []
    else if b.toNat = 34 then
      match qS t' with
      | .ok text n => (fS (t'.drop n) (p + 1 + n)).cons ⟨text, ((p + 1 : Nat) : Int), true⟩
      | .bad n => .bad (p + 1 + n)
      | .stop => .bad (p + 1 + t'.length)
    else match wS (b :: t') with
      | .inl n => (fS (t'.drop (n - 1)) (p + n)).cons ⟨(b :: t').take n, ((p + 1 : Nat) : Int), false⟩
      | .inr n => .bad (p + n)
termination_by t.length
decreasing_by all_goals (simp; try omega)
theorem fS_nil (p : Nat) : fS [] p = .ok [] := by unfold fS; rfl
theorem fS_cons (b : UInt8) (t' : List UInt8) (p : Nat) : fS (b :: t') p = if b.toNat = 32 then fS t' (p + 1)
    else if b.toNat = 35 then .ok []
    else if b.toNat = 34 then
      match qS t' with
      | .ok text n => (fS (t'.drop n) (p + 1 + n)).cons ⟨text, ((p + 1 : Nat) : Int), true⟩
      | .bad n => .bad (p + 1 + n)
      | .stop => .bad (p + 1 + t'.length)
    else match wS (b :: t') with
      | .inl n => (fS (t'.drop (n - 1)) (p + n)).cons ⟨(b :: t').take n, ((p + 1 : Nat) : Int), false⟩
      | .inr n => .bad (p + n) := by
  conv => lhs; unfold fS
def ffinL (out : List T_api_Field) : FR → (List T_api_Field) ⊕ Int
  | .ok l => .inl (out ++ l)
  | .bad n => .inr (((n + 1 : Nat) : Int))
theorem ffinL_cons (out : List T_api_Field) (f : T_api_Field) (r : FR) : ffinL out (r.cons f) = ffinL (out ++ [f]) r := by
  cases r <;> simp [ffinL, FR.cons]
theorem subL_nat {s : List UInt8} {i : Nat} (h : i ≤ s.length) : subL s (i : Int) = some (s.drop i) := by
  unfold subL
  rw [if_pos (by omega), Int.toNat_natCast, List.take_of_length_le (by simp)]
theorem subI_nat {s : List UInt8} {i j : Nat} (h : i ≤ j) (hj : j ≤ s.length) : subI s (i : Int) (j : Int) = some ((s.drop i).take (j - i)) := by
  unfold subI
  rw [if_pos (by omega)]
  simp
def fresL : FR → (List T_api_Field) × Int
  | .ok l => (l, 0)
  | .bad n => ([], ((n + 1 : Nat) : Int))
def fresR : FR → (List T_api_Field) × Int
  | .ok l => (l, -1)
  | .bad n => ([], (n : Int))
def ffinR (out : List T_api_Field) : FR → (List T_api_Field) × Int
  | .ok l => (out ++ l, -1)
  | .bad n => ([], (n : Int))
theorem ffinR_cons (out : List T_api_Field) (f : T_api_Field) (r : FR) : ffinR out (r.cons f) = ffinR (out ++ [f]) r := by
  cases r <;> simp [ffinR, FR.cons]
theorem ref_skip (s : List UInt8) (hs : s.length ≤ 9223372036854775806) (p : Nat) (hp : p ≤ s.length) : ∃ j : Nat, iter (g_ref07_fields_s2 s) (p : Int) = some (j : Int) ∧ p ≤ j ∧ j ≤ s.length ∧ fS (s.drop j) j = fS (s.drop p) p ∧ ∀ h : j < s.length, s[j].toNat ≠ 32 := by
  have := iter_post (step := g_ref07_fields_s2 s) (fun x => ∃ i : Nat, x = (i : Int) ∧ p ≤ i ∧ i ≤ s.length ∧ fS (s.drop i) i = fS (s.drop p) p) (fun x => s.length - x.toNat)
    (fun e => ∃ j : Nat, e = (j : Int) ∧ p ≤ j ∧ j ≤ s.length ∧ fS (s.drop j) j = fS (s.drop p) p ∧ ∀ h : j < s.length, s[j].toNat ≠ 32) (x := (p : Int)) ⟨p, rfl, Nat.le_refl _, hp, rfl⟩ (by show s.length - _ < _; omega) ?_
  · obtain ⟨e, he, j, rfl, h⟩ := this
    exact ⟨j, he, h⟩
  · rintro x ⟨i, rfl, hpi, hi, hf⟩
    by_cases h : i < s.length
    · have w1 := wrap_i64 ((i : Int) + 1) (by omega) (by omega)
      have hat := atI_nat h
      have hcnd : decide ((i : Int) < (s.length : Int)) = true := by simpa using h
      simp only [g_ref07_fields_s2, hcnd, if_true, hat, Option.bind_some, w1]
      by_cases c32 : s[i].toNat = 32
      · left
        refine ⟨(i : Int) + 1, by simp [c32], ⟨i + 1, by omega, by omega, by omega, ?_⟩, by simp; omega⟩
        rw [← hf, drop_cons h, fS_cons, if_pos c32]
      · right
        have e1 : ((s[i].toNat : Int) == 32) = false := by simp; omega
        exact ⟨(i : Int), by simp [e1], i, rfl, hpi, hi, hf, fun _ => c32⟩
    · right
      obtain rfl : i = s.length := by omega
      exact ⟨(s.length : Int), by simp [g_ref07_fields_s2], s.length, rfl, hpi, hi, hf, fun h' => absurd h' h⟩
theorem ref_fields_loop (s : List UInt8) (hs : s.length ≤ 4000000000000) : iter (g_ref07_fields_s1 s) ([], 0) = some (ffinR [] (fS s 0)) := by
  refine iter_of (fun x e => ∃ i : Nat, x.2 = (i : Int) ∧ i ≤ s.length ∧ x.1.length ≤ i ∧ e = ffinR x.1 (fS (s.drop i) i)) (fun x => s.length - x.2.toNat) ?_ (x := ([], 0)) ⟨0, rfl, by omega, by simp, by simp⟩ (by show s.length - _ < _; omega)
  rintro ⟨out, z⟩ e ⟨i0, hz, hi0, ha0, rfl⟩
  simp only at hz ha0 ⊢
  subst hz
  obtain ⟨i, hit, hi0i, hi, hfs, hne⟩ := ref_skip s (by omega) i0 hi0
  rw [← hfs]
  have ha : out.length ≤ i := by omega
  by_cases h : i < s.length
  · have w1 := wrap_i64 ((i : Int) + 1) (by omega) (by omega)
    have hat := atI_nat h
    have hb := u8lt s[i]
    have c32 := hne h
    have hcnd : decide ((s.length : Int) ≤ (i : Int)) = false := by simp; omega
    have hap : (out.length + 1) * 32 ≤ 140737488355328 := by omega
    have hq := ref_quoted_eq s (by omega) i h
    have hw := ref_word_eq s (by omega) i hi
    have hdc := drop_cons h
    rw [hdc, fS_cons, if_neg c32]
    simp only [g_ref07_fields_s1, hit, hcnd, hat, Option.bind_some, w1, hq, hw, if_pos hap, Bool.false_eq_true, if_false]
    by_cases c35 : s[i].toNat = 35
    · right
      simp [c35, ffinR]
    · rw [if_neg c35]
      have e2 : ((s[i].toNat : Int) == 35) = false := by simp; omega
      simp only [e2, Bool.false_eq_true, if_false]
      by_cases c34 : s[i].toNat = 34
      · rw [if_pos c34]
        have e3 : ((s[i].toNat : Int) == 34) = true := by simp; omega
        simp only [e3, if_true]
        have hle := qS_le (s.drop (i + 1))
        cases hr : qS (s.drop (i + 1)) with
        | ok text n =>
          left
          have := hle.1 text n hr
          rw [List.length_drop] at this
          refine ⟨(out ++ [⟨text, (i : Int) + 1, true⟩], ((i + 1 + n : Nat) : Int)), ?_, ⟨i + 1 + n, rfl, by omega, by simp; omega, ?_⟩, by simp; omega⟩
          · simp only [qres]
            simp
          · rw [ffinR_cons, List.drop_drop]
            have : ((i + 1 : Nat) : Int) = (i : Int) + 1 := by omega
            rw [this]
        | bad n =>
          right
          have hv : decide (0 ≤ (qres (i + 1) s.length (QR.bad n)).2.2) = true := decide_eq_true (Int.natCast_nonneg _)
          simp only [hv, if_true]
          simp only [qres, ffinR]
        | stop =>
          right
          have hv : decide (0 ≤ (qres (i + 1) s.length QR.stop).2.2) = true := decide_eq_true (Int.natCast_nonneg _)
          simp only [hv, if_true]
          simp only [qres, ffinR]
          congr 3
          simp only [List.length_drop]
          omega
      · rw [if_neg c34]
        have e3 : ((s[i].toNat : Int) == 34) = false := by simp; omega
        simp only [e3, Bool.false_eq_true, if_false]
        rw [← hdc]
        cases hr : wS (s.drop i) with
        | inl n =>
          left
          have hn := wS_le _ n hr
          have hn1 := wS_pos (by rw [hdc] at hr; exact hr) c32
          rw [List.length_drop] at hn
          have hsub := subI_nat (s := s) (i := i) (j := i + n) (by omega) (by omega)
          rw [show i + n - i = n by omega] at hsub
          refine ⟨(out ++ [⟨(s.drop i).take n, (i : Int) + 1, false⟩], ((i + n : Nat) : Int)), ?_, ⟨i + n, rfl, by omega, by simp; omega, ?_⟩, by simp; omega⟩
          · simp only [wout, hsub, Option.bind_some]
          · rw [ffinR_cons, List.drop_drop, show i + 1 + (n - 1) = i + n by omega]
            have : ((i + 1 : Nat) : Int) = (i : Int) + 1 := by omega
            rw [this]
        | inr n =>
          right
          simp only [wout, ffinR]
  · right
    obtain rfl : i = s.length := by omega
    simp [g_ref07_fields_s1, hit, fS_nil, ffinR]
theorem ref_fields_eq (s : List UInt8) (hs : s.length ≤ 4000000000000) : g_ref07_fields s = some (fresR (fS s 0)) := by
  simp only [g_ref07_fields, ref_fields_loop s hs, Option.bind_some]
  cases fS s 0 <;> simp [ffinR, fresR]
/-- A text cut at its line feeds. -/
def spL : List UInt8 → List (List UInt8)
  | [] => [[]]
  | b :: t => if b.toNat = 10 then [] :: spL t else match spL t with
    | [] => [[b]]
    | h :: r => (b :: h) :: r
theorem spL_no : ∀ (s : List UInt8), (∀ b ∈ s, b.toNat ≠ 10) → spL s = [s]
  | [], _ => rfl
  | b :: t, h => by
    have := spL_no t (fun x hx => h x (by simp [hx]))
    simp only [spL, if_neg (h b (by simp)), this]
theorem spL_hit : ∀ (i : Nat) (s : List UInt8) (hi : i < s.length), s[i].toNat = 10 → (∀ (j : Nat) (hj : j < i), s[j].toNat ≠ 10) → spL s = s.take i :: spL (s.drop (i + 1))
  | 0, b :: t, _, h10, _ => by
    have : b.toNat = 10 := h10
    simp [spL, this]
  | i + 1, b :: t, hi, h10, hn => by
    have h0 : b.toNat ≠ 10 := hn 0 (by omega)
    have := spL_hit i t (by simpa using hi) (by simpa using h10) (fun j hj => by have := hn (j + 1) (by omega); simpa using this)
    simp only [spL, if_neg h0, this]
    simp
  | 0, [], hi, _, _ => by simp at hi
  | _ + 1, [], hi, _, _ => by simp at hi
theorem u8_10 (b : UInt8) : b = 10 ↔ b.toNat = 10 := ⟨fun h => by rw [h]; rfl, fun h => UInt8.toNat_inj.1 h⟩
theorem split_eq : ∀ (n : Nat) (s : List UInt8), s.length ≤ n → Lib.split s [10] = spL s := by
  intro n
  induction n with
  | zero => intro s hs; have : s = [] := List.eq_nil_of_length_eq_zero (by omega); subst this; rfl
  | succ n ih =>
    intro s hs
    have hix := Lib.index_one s 10
    by_cases hm : Lib.index s [10] = -1
    · have hno : ∀ b ∈ s, b.toNat ≠ 10 := by
        intro b hb h10
        obtain ⟨k, hk⟩ := List.getElem?_of_mem hb
        exact Lib.indexByte_none (by rw [← hix]; exact hm) k (by rw [hk, (u8_10 b).2 h10])
      rw [spL_no s hno]
      unfold Lib.split
      rw [Lib.count_miss hm]
      rfl
    · have hge := Lib.index_ge s [10]
      obtain ⟨i, hi⟩ : ∃ i : Nat, Lib.index s [10] = i := ⟨(Lib.index s [10]).toNat, by omega⟩
      obtain ⟨h1, h2⟩ := Lib.indexByte_some (by rw [← hix]; exact hi)
      obtain ⟨hlt, hget⟩ := List.getElem?_eq_some_iff.1 h1
      have hspl := spL_hit i s hlt (by rw [hget]; rfl) (fun j hj h10 => h2 j hj (by rw [List.getElem?_eq_getElem (by omega), (u8_10 _).2 h10]))
      rw [hspl]
      unfold Lib.split
      rw [Lib.count_hit (by simp) hi, Nat.add_comm]
      unfold Lib.splitK
      have hne : ¬ (Lib.index s [10] == -1) = true := by simp; omega
      rw [if_neg hne, hi]
      simp only [Int.toNat_natCast, Nat.add_zero, List.length_cons, List.length_nil, Nat.zero_add]
      congr 1
      exact ih (s.drop (i + 1)) (by simp; omega)
theorem fS_bad_le : ∀ (m : Nat) (t : List UInt8) (p n : Nat), t.length ≤ m → fS t p = .bad n → n ≤ p + t.length := by
  intro m
  induction m with
  | zero => intro t p n hm h; have : t = [] := List.eq_nil_of_length_eq_zero (by omega); subst this; rw [fS_nil] at h; cases h
  | succ m ih =>
    intro t p n hm h
    cases t with
    | nil => rw [fS_nil] at h; cases h
    | cons b t =>
      simp only [List.length_cons] at hm ⊢
      rw [fS_cons] at h
      split at h
      · have := ih t (p + 1) n (by omega) h; omega
      · split at h
        · cases h
        · split at h
          · cases hq : qS t with
            | ok text k =>
              rw [hq] at h
              simp only at h
              cases hr : fS (t.drop k) (p + 1 + k) with
              | ok l => rw [hr] at h; cases h
              | bad x =>
                rw [hr] at h
                simp [FR.cons] at h
                subst h
                have := ih (t.drop k) (p + 1 + k) x (by simp; omega) hr
                have hk := (qS_le t).1 text k hq
                rw [List.length_drop] at this; omega
            | bad k => rw [hq] at h; simp at h; have := (qS_le t).2 k hq; omega
            | stop => rw [hq] at h; simp at h; omega
          · rename_i h32 _ _
            cases hq : wS (b :: t) with
            | inl k =>
              rw [hq] at h
              simp only at h
              cases hr : fS (t.drop (k - 1)) (p + k) with
              | ok l => rw [hr] at h; cases h
              | bad x =>
                rw [hr] at h
                simp [FR.cons] at h
                subst h
                have := ih (t.drop (k - 1)) (p + k) x (by simp; omega) hr
                have hk := wS_le _ k hq
                have hk1 := wS_pos hq h32
                simp at hk
                rw [List.length_drop] at this; omega
            | inr k => rw [hq] at h; simp at h; have := wS_bad _ k hq; simp at this; omega
/-- What a line gives. -/
def lr (n : Nat) (y : List UInt8) : Option (T_api_Diag ⊕ T_api_Line) := if 1000 < y.length then some (.inl ⟨((n + 1 : Nat) : Int), 1001, 9⟩) else match fS y 0 with
  | .bad b => some (.inl ⟨((n + 1 : Nat) : Int), ((b + 1 : Nat) : Int), 4⟩)
  | .ok [] => none
  | .ok (f :: l) => some (.inr ⟨((n + 1 : Nat) : Int), f :: l⟩)
def accL (p : List T_api_Line × List T_api_Diag) : Option (T_api_Diag ⊕ T_api_Line) → List T_api_Line × List T_api_Diag
  | none => p
  | some (.inl d) => (p.1, p.2 ++ [d])
  | some (.inr l) => (p.1 ++ [l], p.2)
def allR : Nat → List (List UInt8) → List T_api_Line × List T_api_Diag → List T_api_Line × List T_api_Diag
  | _, [], p => p
  | n, y :: r, p => allR (n + 1) r (accL p (lr n y))
/-- The lines of a text and its diagnostics. -/
def splitS (src : List UInt8) : List T_api_Line × List T_api_Diag := if 262144 < src.length then ([], [⟨1, 1, 9⟩]) else ((allR 0 (spL src) ([], [])).1, (allR 0 (spL src) ([], [])).2.take 50)
theorem take50 (l : List T_api_Diag) (d : T_api_Diag) : (l ++ [d]).take 50 = if (l.take 50).length < 50 then l.take 50 ++ [d] else l.take 50 := by
  rw [List.length_take]
  by_cases h : l.length < 50
  · rw [if_pos (by omega), List.take_of_length_le (by simp; omega), List.take_of_length_le (by omega)]
  · rw [if_neg (by omega), List.take_append_of_le_length (by omega)]
theorem accL_len (p : List T_api_Line × List T_api_Diag) (x : Option (T_api_Diag ⊕ T_api_Line)) (n : Nat) (h1 : p.1.length ≤ n) (h2 : p.2.length ≤ n) : (accL p x).1.length ≤ n + 1 ∧ (accL p x).2.length ≤ n + 1 := by
  rcases x with _ | d | l <;> simp [accL] <;> omega
theorem spL_len : ∀ (s : List UInt8), 1 ≤ (spL s).length ∧ (spL s).length ≤ s.length + 1
  | [] => by simp [spL]
  | b :: t => by
    have := spL_len t
    simp only [spL]
    split
    · simp; omega
    · split
      · rename_i h; rw [h] at this; simp at this
      · rename_i h; rw [h] at this; simp at this ⊢; omega
theorem ref_Split_loop (src : List UInt8) (hs : src.length ≤ 262144) : iter (g_ref07_Split_s1 src) ([], [], 1, 0, 0) = some (allR 0 (spL src) ([], [])) := by
  refine iter_of (fun x e => ∃ (n st i : Nat) (p : List T_api_Line × List T_api_Diag), x.2.2.1 = ((n + 1 : Nat) : Int) ∧ x.2.2.2.1 = (st : Int) ∧ x.2.2.2.2 = (i : Int) ∧ n ≤ i ∧ i ≤ src.length + 1 ∧ x.1 = p.1 ∧ x.2.1 = p.2 ∧ p.1.length ≤ n ∧ p.2.length ≤ n ∧
      (i ≤ src.length → st ≤ i ∧ (∀ (j : Nat) (hj : j < src.length), st ≤ j → j < i → src[j].toNat ≠ 10) ∧ e = allR n (spL (src.drop st)) p) ∧ (i = src.length + 1 → e = p)) (fun x => src.length + 1 - x.2.2.2.2.toNat) ?_ (x := ([], [], 1, 0, 0))
      ⟨0, 0, 0, ([], []), rfl, rfl, rfl, by omega, by omega, rfl, rfl, by simp, by simp, fun _ => ⟨by omega, fun j _ _ h => by omega, by simp⟩, fun h => by omega⟩ (by show src.length + 1 - _ < _; omega)
  rintro ⟨out, dg, nm, s0, z⟩ e ⟨n, st, i, p, hn, hst, hz, hni, hi, ho, hd, hl1, hl2, hA, hB⟩
  simp only at hn hst hz ho hd ⊢
  subst hn hst hz ho hd
  by_cases h : i ≤ src.length
  · left
    obtain ⟨hsti, hno, he⟩ := hA h
    have w1 := wrap_i64 ((i : Int) + 1) (by omega) (by omega)
    have w2 := wrap_i64 (((n + 1 : Nat) : Int) + 1) (by omega) (by omega)
    have hcnd : decide ((i : Int) ≤ (src.length : Int)) = true := by simpa using h
    have hap1 : (p.1.length + 1) * 32 ≤ 140737488355328 := by omega
    have hap2 : (p.2.length + 1) * 24 ≤ 140737488355328 := by omega
    have hn1 : ((i + 1 : Nat) : Int) = (i : Int) + 1 := by omega
    have hn2 : ((n + 1 + 1 : Nat) : Int) = ((n + 1 : Nat) : Int) + 1 := by omega
    have hsub := subI_nat (s := src) (i := st) (j := i) hsti h
    by_cases hnl : ∃ hh : i < src.length, src[i].toNat ≠ 10
    · obtain ⟨hh, h10⟩ := hnl
      have hat := atI_nat hh
      have hc2 : decide ((i : Int) < (src.length : Int)) = true := by simpa using hh
      have e1 : ((src[i].toNat : Int) != 10) = true := by simp; omega
      refine ⟨(p.1, p.2, ((n + 1 : Nat) : Int), (st : Int), (i : Int) + 1), ?_, ⟨n, st, i + 1, p, rfl, rfl, by simp, by omega, by omega, rfl, rfl, hl1, hl2, fun h' => ⟨by omega, fun j hj h1 h2 => ?_, he⟩, fun h' => by omega⟩, by simp; omega⟩
      · simp only [g_ref07_Split_s1, hcnd, if_true, hc2, hat, Option.bind_some, e1, w1]
      · by_cases hji : j = i
        · subst hji; exact h10
        · exact hno j hj h1 (by omega)
    · -- a line ends here
      have hv : (((if (decide ((i : Int) < (src.length : Int))) then ((atI src (i : Int)).bind fun b468 => (some ((b468.toNat : Int) != 10))) else (some false)) : Option (Bool))) = some false := by
        by_cases hh : i < src.length
        · have h10 : src[i].toNat = 10 := Classical.not_not.1 fun hx => hnl ⟨hh, hx⟩
          have hc2 : decide ((i : Int) < (src.length : Int)) = true := by simpa using hh
          simp only [hc2, if_true, atI_nat hh, Option.bind_some, h10]
          rfl
        · have hc2 : decide ((i : Int) < (src.length : Int)) = false := by simp; omega
          simp only [hc2, Bool.false_eq_true, if_false]
      have hnb : ∀ (j : Nat) (hj : j < i - st), ((src.drop st)[j]'(by simp; omega)).toNat ≠ 10 := by
        intro j hj
        rw [List.getElem_drop]
        exact hno (st + j) (by omega) (by omega) (by omega)
      have hsp : spL (src.drop st) = (src.drop st).take (i - st) :: (if i < src.length then spL (src.drop (i + 1)) else []) := by
        by_cases hh : i < src.length
        · have h10 : src[i].toNat = 10 := Classical.not_not.1 fun hx => hnl ⟨hh, hx⟩
          rw [if_pos hh]
          have := spL_hit (i - st) (src.drop st) (by simp; omega) (by rw [List.getElem_drop]; simpa [show st + (i - st) = i by omega] using h10) (fun j hj => hnb j hj)
          rw [this, List.drop_drop, show st + (i - st + 1) = i + 1 by omega]
        · rw [if_neg hh]
          obtain rfl : i = src.length := by omega
          rw [spL_no, List.take_of_length_le (by simp)]
          intro b hb
          obtain ⟨j, hj, rfl⟩ := List.getElem_of_mem hb
          exact hnb j (by simpa using hj)
      have key : ∃ q : List T_api_Line × List T_api_Diag, q = accL p (lr n ((src.drop st).take (i - st))) ∧ g_ref07_Split_s1 src (p.1, p.2, ((n + 1 : Nat) : Int), (st : Int), (i : Int)) = some (.go (q.1, q.2, ((n + 1 : Nat) : Int) + 1, (i : Int) + 1, (i : Int) + 1)) := by
        simp only [g_ref07_Split_s1, hcnd, if_true, hv, Option.bind_some, Bool.false_eq_true, if_false, hsub, w1, w2, if_pos hap1, if_pos hap2]
        generalize hy : (src.drop st).take (i - st) = y
        have hyl : y.length ≤ 262144 := by rw [← hy]; simp; omega
        by_cases hlong : 1000 < y.length
        · have e1 : decide (1000 < (y.length : Int)) = true := by simp; omega
          simp only [e1, if_true, lr, if_pos hlong, accL, Option.bind_some]
          exact ⟨_, rfl, rfl⟩
        · have e1 : decide (1000 < (y.length : Int)) = false := by simp; omega
          have hf := ref_fields_eq y (by omega)
          simp only [e1, Bool.false_eq_true, if_false, lr, if_neg hlong, hf, Option.bind_some]
          cases hfs : fS y 0 with
          | bad b =>
            have e3 : decide (0 ≤ (fresR (.bad b)).2) = true := decide_eq_true (Int.natCast_nonneg _)
            simp only [e3, if_true, accL, Option.bind_some]
            simp only [fresR]
            refine ⟨_, rfl, ?_⟩
            have hbl : b ≤ 4000000000000 := by
              have := fS_bad_le y.length y 0 b (Nat.le_refl _) hfs
              omega
            rw [wrap_i64 ((b : Int) + 1) (by omega) (by omega)]
            have : ((b + 1 : Nat) : Int) = (b : Int) + 1 := by omega
            rw [this]
          | ok l =>
            have e3 : decide (0 ≤ (fresR (.ok l)).2) = false := by simp [fresR]
            simp only [e3, Bool.false_eq_true, if_false]
            cases l with
            | nil =>
              have e4 : decide (0 < ((fresR (.ok [])).1.length : Int)) = false := by simp [fresR]
              simp only [e4, Bool.false_eq_true, if_false, accL, Option.bind_some]
              exact ⟨p, rfl, rfl⟩
            | cons f l =>
              have e4 : decide (0 < ((fresR (.ok (f :: l))).1.length : Int)) = true := by simp [fresR]
              simp only [e4, if_true, accL, Option.bind_some]
              exact ⟨_, rfl, rfl⟩
      obtain ⟨q, hq1, hq⟩ := key
      refine ⟨_, hq, ⟨n + 1, i + 1, i + 1, q, by simp only; omega, by simp, by simp, by omega, by omega, rfl, rfl, ?_, ?_, fun h' => ⟨by omega, fun j hj h1 h2 => by omega, ?_⟩, fun h' => ?_⟩, by simp; omega⟩
      · rw [hq1]; exact (accL_len p _ n hl1 hl2).1
      · rw [hq1]; exact (accL_len p _ n hl1 hl2).2
      · rw [he, hsp, if_pos (by omega), hq1]; rfl
      · rw [he, hsp, if_neg (by omega), hq1]; rfl
  · right
    have hc : decide ((i : Int) ≤ (src.length : Int)) = false := by simp; omega
    rw [hB (by omega)]
    simp only [g_ref07_Split_s1, hc, Bool.false_eq_true, if_false]
theorem ref_Split_eq (src : List UInt8) : g_ref07_Split src = some (splitS src) := by
  unfold splitS
  by_cases h : 262144 < src.length
  · have e1 : decide (262144 < (src.length : Int)) = true := by simp; omega
    simp only [g_ref07_Split, e1, if_true, if_pos h]
  · have e1 : decide (262144 < (src.length : Int)) = false := by simp; omega
    simp only [g_ref07_Split, e1, Bool.false_eq_true, if_false, if_neg h, ref_Split_loop src (by omega), Option.bind_some]
    generalize (allR 0 (spL src) ([], [])) = q
    have : subH q.2 (if 50 < ((q.2.length : Nat) : Int) then 50 else ((q.2.length : Nat) : Int)) = some (q.2.take 50) := by
      unfold subH
      by_cases h5 : 50 < ((q.2.length : Nat) : Int)
      · rw [if_pos h5, if_pos (by constructor <;> omega)]; rfl
      · rw [if_neg h5, if_pos (by constructor <;> omega)]
        rw [List.drop_zero, Int.toNat_natCast, Nat.sub_zero, List.take_of_length_le (Nat.le_refl _), List.take_of_length_le (by omega)]
    simp only [this, Option.bind_some]
theorem fS_ok_len : ∀ (m : Nat) (t : List UInt8) (p : Nat) (l : List T_api_Field), t.length ≤ m → fS t p = .ok l → l.length ≤ t.length := by
  intro m
  induction m with
  | zero => intro t p l hm h; have : t = [] := List.eq_nil_of_length_eq_zero (by omega); subst this; rw [fS_nil] at h; injection h with h; subst h; simp
  | succ m ih =>
    intro t p l hm h
    cases t with
    | nil => rw [fS_nil] at h; injection h with h; subst h; simp
    | cons b t =>
      simp only [List.length_cons] at hm ⊢
      rw [fS_cons] at h
      split at h
      · have := ih t (p + 1) l (by omega) h; omega
      · split at h
        · injection h with h; subst h; simp
        · split at h
          · cases hq : qS t with
            | ok text k =>
              rw [hq] at h
              simp only at h
              cases hr : fS (t.drop k) (p + 1 + k) with
              | bad x => rw [hr] at h; cases h
              | ok l' =>
                rw [hr] at h
                simp [FR.cons] at h
                subst h
                have := ih (t.drop k) (p + 1 + k) l' (by simp; omega) hr
                rw [List.length_drop] at this; simp; omega
            | bad k => rw [hq] at h; simp at h
            | stop => rw [hq] at h; simp at h
          · cases hq : wS (b :: t) with
            | inl k =>
              rw [hq] at h
              simp only at h
              cases hr : fS (t.drop (k - 1)) (p + k) with
              | bad x => rw [hr] at h; cases h
              | ok l' =>
                rw [hr] at h
                simp [FR.cons] at h
                subst h
                have := ih (t.drop (k - 1)) (p + k) l' (by simp; omega) hr
                rw [List.length_drop] at this; simp; omega
            | inr k => rw [hq] at h; simp at h
theorem allR_len : ∀ (r : List (List UInt8)) (n : Nat) (p : List T_api_Line × List T_api_Diag), (allR n r p).1.length ≤ p.1.length + r.length ∧ (allR n r p).2.length ≤ p.2.length + r.length
  | [], n, p => by simp [allR]
  | y :: r, n, p => by
    have := allR_len r (n + 1) (accL p (lr n y))
    have h2 : (accL p (lr n y)).1.length ≤ p.1.length + 1 ∧ (accL p (lr n y)).2.length ≤ p.2.length + 1 := by
      rcases lr n y with _ | d | l <;> simp [accL]
    simp only [allR, List.length_cons]
    omega
theorem lr_fields (n : Nat) (y : List UInt8) (l : T_api_Line) (h : lr n y = some (.inr l)) : l.Fields.length ≤ 1000 := by
  unfold lr at h
  split at h
  · cases h
  · cases hf : fS y 0 with
    | bad b => rw [hf] at h; cases h
    | ok fs =>
      rw [hf] at h
      cases fs with
      | nil => cases h
      | cons f fs =>
        injection h with h
        injection h with h
        subst h
        have := fS_ok_len y.length y 0 (f :: fs) (Nat.le_refl _) hf
        show (f :: fs).length ≤ 1000
        omega
theorem allR_fields : ∀ (r : List (List UInt8)) (n : Nat) (p : List T_api_Line × List T_api_Diag), (∀ x ∈ p.1, x.Fields.length ≤ 1000) → ∀ x ∈ (allR n r p).1, x.Fields.length ≤ 1000
  | [], n, p, h => h
  | y :: r, n, p, h => by
    refine allR_fields r (n + 1) (accL p (lr n y)) ?_
    cases hl : lr n y with
    | none => exact h
    | some q =>
      cases q with
      | inl d => exact h
      | inr l =>
        intro x hx
        simp only [accL, List.mem_append, List.mem_singleton] at hx
        rcases hx with hx | rfl
        · exact h x hx
        · exact lr_fields n y _ hl
theorem splitS_small (src : List UInt8) : (splitS src).1.length ≤ 262145 ∧ (splitS src).2.length ≤ 50 ∧ ∀ x ∈ (splitS src).1, x.Fields.length ≤ 1000 := by
  unfold splitS
  split
  · simp
  · have h1 := allR_len (spL src) 0 ([], [])
    have h2 := allR_fields (spL src) 0 ([], []) (by simp)
    have h3 := spL_len src
    simp only [List.length_nil] at h1
    refine ⟨by show (allR 0 (spL src) ([], [])).1.length ≤ _; omega, by simp; omega, h2⟩
/-- A byte of a name. -/
def nmB (b : UInt8) : Bool := (decide (65 ≤ b.toNat) && decide (b.toNat ≤ 90)) || (decide (48 ≤ b.toNat) && decide (b.toNat ≤ 57)) || b.toNat == 95 || b.toNat == 45
/-- Is it a name? -/
def isNm (s : List UInt8) : Bool := match s with
  | [] => false
  | b :: _ => decide (s.length ≤ 16) && (decide (65 ≤ b.toNat) && decide (b.toNat ≤ 90)) && s.all nmB
theorem isNm_at (s : List UInt8) (h1 : 1 ≤ s.length) : isNm s = true ↔ (s.length ≤ 16 ∧ (65 ≤ s[0].toNat ∧ s[0].toNat ≤ 90) ∧ ∀ i (h : i < s.length), nmB s[i] = true) := by
  match s, h1 with
  | b :: t, _ =>
    simp only [isNm, Bool.and_eq_true, decide_eq_true_eq, List.all_eq_true]
    constructor
    · rintro ⟨⟨h1, h2⟩, h3⟩
      exact ⟨h1, by simpa using h2, fun i h => h3 _ (List.getElem_mem h)⟩
    · rintro ⟨h1, h2, h3⟩
      refine ⟨⟨h1, by simpa using h2⟩, fun x hx => ?_⟩
      obtain ⟨i, hi, rfl⟩ := List.getElem_of_mem hx
      exact h3 i hi
theorem lines_Name_loop (s : List UInt8) (hs : s.length ≤ 16) : ∃ e, iter (g_lines_Name_s1 s) 0 = some e ∧ (e = .inr () ↔ ∀ i (h : i < s.length), nmB s[i] = true) := by
  refine iter_cnt s.length (by omega) (fun n => ∀ i (h : i < s.length), i < n → nmB s[i] = true) _ (by intro i _ h; omega) ?_ ?_
  · intro i hi hI
    have hw := wrap_i64 ((i : Int) + 1) (by omega) (by omega)
    simp only [g_lines_Name_s1, atI_nat hi, Option.bind_some, hw]
    have hb := u8lt s[i]
    have hk : nmB s[i] = true ∨ nmB s[i] = false := by cases nmB s[i] <;> simp
    rcases hk with hk | hk
    · left
      refine ⟨?_, fun j hj hlt => ?_⟩
      · simp only [nmB] at hk; grind
      · by_cases hji : j = i
        · subst hji; exact hk
        · exact hI j hj (by omega)
    · right
      refine ⟨.inl (), ?_, ?_⟩
      · simp only [nmB] at hk; grind
      · simp only [reduceCtorEq, false_iff]
        intro h
        have := h i hi
        simp [hk] at this
  · intro hI
    refine ⟨.inr (), by simp [g_lines_Name_s1], ?_⟩
    simp only [true_iff]
    exact fun i h => hI i h h
theorem lines_Name_eq (s : List UInt8) : g_lines_Name s = some (isNm s) := by
  by_cases h0 : s.length < 1
  · match s, h0 with
    | [], _ => rfl
  · by_cases h1 : s.length ≤ 16
    · obtain ⟨e, he, hi⟩ := lines_Name_loop s h1
      have hn := isNm_at s (by omega)
      have h0' : atI s 0 = some s[0] := atI_nat (n := 0) (by omega)
      simp only [g_lines_Name, he, h0', Option.bind_some]
      rcases e with ⟨⟩ | ⟨⟩ <;> grind
    · have : isNm s = false := by
        cases hh : isNm s with
        | false => rfl
        | true => exact absurd ((isNm_at s (by omega)).1 hh).1 h1
      simp only [g_lines_Name, this]
      grind
theorem digit_eq (c : Int) : g_ref07_digit c = some (decide (48 ≤ c) && decide (c ≤ 57)) := by
  simp only [g_ref07_digit]; grind
theorem ref07_Name_loop (s : List UInt8) (hs : s.length ≤ 16) (hs1 : 1 ≤ s.length) : ∃ e, iter (g_ref07_Name_s1 s) 0 = some e ∧ (e = .inr () ↔ (65 ≤ s[0].toNat ∧ s[0].toNat ≤ 90) ∧ ∀ i (h : i < s.length), nmB s[i] = true) := by
  refine iter_cnt s.length (by omega) (fun n => (0 < n → 65 ≤ s[0].toNat ∧ s[0].toNat ≤ 90) ∧ ∀ i (h : i < s.length), i < n → nmB s[i] = true) _ ⟨by omega, by intro i _ h; omega⟩ ?_ ?_
  · intro i hi ⟨hI0, hI⟩
    have hw := wrap_i64 ((i : Int) + 1) (by omega) (by omega)
    simp only [g_ref07_Name_s1, atI_nat hi, Option.bind_some, hw, digit_eq]
    have hb := u8lt s[i]
    by_cases hk : nmB s[i] = true ∧ (i = 0 → 65 ≤ s[0].toNat ∧ s[0].toNat ≤ 90)
    · left
      obtain ⟨hk, hk0⟩ := hk
      refine ⟨?_, fun _ => ?_, fun j hj hlt => ?_⟩
      · simp only [nmB] at hk
        by_cases h0 : i = 0
        · subst h0; grind
        · grind
      · by_cases h0 : i = 0
        · exact hk0 h0
        · exact hI0 (by omega)
      · by_cases hji : j = i
        · subst hji; exact hk
        · exact hI j hj (by omega)
    · right
      refine ⟨.inl (), ?_, ?_⟩
      · simp only [nmB] at hk
        by_cases h0 : i = 0
        · subst h0; grind
        · grind
      · simp only [reduceCtorEq, false_iff]
        rintro ⟨h1, h2⟩
        exact hk ⟨h2 i hi, fun _ => h1⟩
  · intro ⟨hI0, hI⟩
    refine ⟨.inr (), by simp [g_ref07_Name_s1], ?_⟩
    simp only [true_iff]
    exact ⟨hI0 (by omega), fun i h => hI i h h⟩
theorem ref07_Name_eq (s : List UInt8) : g_ref07_Name s = some (isNm s) := by
  by_cases h0 : s.length < 1
  · match s, h0 with
    | [], _ => rfl
  · by_cases h1 : s.length ≤ 16
    · obtain ⟨e, he, hi⟩ := ref07_Name_loop s h1 (by omega)
      have hn := isNm_at s (by omega)
      simp only [g_ref07_Name, he, Option.bind_some]
      rcases e with ⟨⟩ | ⟨⟩ <;> grind
    · have : isNm s = false := by
        cases hh : isNm s with
        | false => rfl
        | true => exact absurd ((isNm_at s (by omega)).1 hh).1 h1
      simp only [g_ref07_Name, this]
      grind
def isDg (b : UInt8) : Bool := decide (48 ≤ b.toNat) && decide (b.toNat ≤ 57)
def numV (acc : Nat) (l : List UInt8) : Nat := l.foldl (fun a c => a * 10 + (c.toNat - 48)) acc
def numN (s : List UInt8) : Bool := s.head?.any (fun b => b.toNat == 45)
def numD (s : List UInt8) : List UInt8 := if numN s then s.drop 1 else s
def numBad (s : List UInt8) : Bool := match numD s with
  | [] => true
  | b :: t => (b.toNat == 48 && (decide (1 < (b :: t).length) || numN s)) || !((b :: t).all isDg)
def numVal (s : List UInt8) : Int := if numN s then -(numV 0 (numD s) : Int) else (numV 0 (numD s) : Int)
/-- What Number answers. -/
def numS (s : List UInt8) (lo hi : Int) : Int × Int := if numBad s then (0, 4) else if numVal s < -9223372036854775808 ∨ 9223372036854775807 < numVal s ∨ numVal s < lo ∨ hi < numVal s then (0, 2) else (numVal s, 0)
theorem numV_cons (acc : Nat) (c : UInt8) (r : List UInt8) : numV acc (c :: r) = numV (acc * 10 + (c.toNat - 48)) r := by unfold numV; rw [List.foldl_cons]
theorem numV_ge (l : List UInt8) : ∀ (acc : Nat), acc * 10 ^ l.length ≤ numV acc l := by
  induction l with
  | nil => intro acc; unfold numV; simp
  | cons c r ih =>
    intro acc
    rw [numV_cons, List.length_cons, Nat.pow_succ, Nat.mul_comm (10 ^ r.length) 10, ← Nat.mul_assoc]
    exact Nat.le_trans (Nat.mul_le_mul_right _ (Nat.le_add_right _ _)) (ih _)
theorem numV_le (l : List UInt8) : ∀ (acc : Nat), (∀ b ∈ l, isDg b = true) → numV acc l < (acc + 1) * 10 ^ l.length := by
  induction l with
  | nil => intro acc _; unfold numV; simp
  | cons c r ih =>
    intro acc h
    have hc := h c (by simp)
    simp only [isDg, Bool.and_eq_true, decide_eq_true_eq] at hc
    rw [numV_cons, List.length_cons, Nat.pow_succ, Nat.mul_comm (10 ^ r.length) 10, ← Nat.mul_assoc]
    exact Nat.lt_of_lt_of_le (ih _ (fun b hb => h b (by simp [hb]))) (Nat.mul_le_mul_right _ (by omega))
theorem parseM (l : List UInt8) : ∀ (acc : Nat), (∀ b ∈ l, isDg b = true) → acc ≤ 18446744073709551615 → Lib.parseUintM 18446744073709551615 acc l = if numV acc l ≤ 18446744073709551615 then .ok (numV acc l) else .range := by
  induction l with
  | nil => intro acc _ h; simp [Lib.parseUintM, numV, h]
  | cons c r ih =>
    intro acc hd h
    have hc := hd c (by simp)
    simp only [isDg, Bool.and_eq_true, decide_eq_true_eq] at hc
    have hge := numV_ge r (acc * 10 + (c.toNat - 48))
    have hp : 1 ≤ 10 ^ r.length := Nat.one_le_pow _ _ (by omega)
    have hge2 : acc * 10 + (c.toNat - 48) ≤ numV (acc * 10 + (c.toNat - 48)) r := Nat.le_trans (Nat.le_mul_of_pos_right _ hp) hge
    rw [numV_cons, Lib.parseUintM, if_pos hc]
    by_cases h1 : 1844674407370955162 ≤ acc
    · rw [if_pos h1, if_neg (by omega)]
    · rw [if_neg h1]
      by_cases h2 : 18446744073709551615 < acc * 10 + (c.toNat - 48)
      · rw [if_pos h2, if_neg (by omega)]
      · rw [if_neg h2]
        exact ih _ (fun b hb => hd b (by simp [hb])) (by omega)
theorem u8_45 (b : UInt8) : (b == 45) = (b.toNat == 45) := by
  rw [Bool.eq_iff_iff]
  simp only [beq_iff_eq]
  exact ⟨fun h => by rw [h]; rfl, fun h => UInt8.toNat_inj.1 h⟩
theorem cut_eq (s : List UInt8) : g_strings_CutPrefix s [45] = some (numD s, numN s) := by
  simp only [g_strings_CutPrefix, Lib.trimPrefix, Lib.hasPrefix, numD, numN]
  cases s with
  | nil => rfl
  | cons b t =>
    have : ([45] : List UInt8).isPrefixOf (b :: t) = (b.toNat == 45) := by
      simp only [List.isPrefixOf, Bool.and_true]
      rw [← u8_45]
      rw [Bool.eq_iff_iff]; simp only [beq_iff_eq]; exact eq_comm
    simp only [this, List.head?_cons, Option.any_some, List.length_cons, List.length_nil, Nat.zero_add]
    first | done | rfl
theorem digs_loop (d : List UInt8) (hd : d.length ≤ 9223372036854775806) (b : Bool) : ∃ e, iter (g_lines_Number_s1 (d, b)) 0 = some e ∧ (e = .inr () ↔ d.all isDg = true) := by
  have := iter_cnt (step := g_lines_Number_s1 (d, b)) d.length (by omega) (fun n => ∀ i (h : i < d.length), i < n → isDg d[i] = true) (fun e => (e = .inr () ↔ ∀ i (h : i < d.length), isDg d[i] = true)) (by intro i _ h; omega) ?_ ?_
  · obtain ⟨e, he, h⟩ := this
    refine ⟨e, he, h.trans ?_⟩
    rw [List.all_eq_true]
    exact ⟨fun h x hx => by obtain ⟨i, hi, rfl⟩ := List.getElem_of_mem hx; exact h i hi, fun h i hi => h _ (List.getElem_mem hi)⟩
  · intro i hi hI
    have hw := wrap_i64 ((i : Int) + 1) (by omega) (by omega)
    have hcnd : decide ((i : Int) < (d.length : Int)) = true := by simpa using hi
    simp only [g_lines_Number_s1, hcnd, if_true, atI_nat hi, Option.bind_some, hw]
    by_cases h1 : d[i].toNat < 48
    · right
      refine ⟨.inl (), by have : decide ((d[i].toNat : Int) < 48) = true := by simp; omega
                          simp [this], ?_⟩
      simp only [reduceCtorEq, false_iff]
      intro h; have := h i hi; simp only [isDg, Bool.and_eq_true, decide_eq_true_eq] at this; omega
    · have e1 : decide ((d[i].toNat : Int) < 48) = false := by simp; omega
      by_cases h2 : 57 < d[i].toNat
      · right
        refine ⟨.inl (), by have : decide (57 < (d[i].toNat : Int)) = true := by simp; omega
                            simp [e1, this], ?_⟩
        simp only [reduceCtorEq, false_iff]
        intro h; have := h i hi; simp only [isDg, Bool.and_eq_true, decide_eq_true_eq] at this; omega
      · left
        have e2 : decide (57 < (d[i].toNat : Int)) = false := by simp; omega
        refine ⟨by simp [e1, e2], fun j hj hlt => ?_⟩
        by_cases hji : j = i
        · subst hji; simp only [isDg, Bool.and_eq_true, decide_eq_true_eq]; omega
        · exact hI j hj (by omega)
  · intro hI
    refine ⟨.inr (), by simp [g_lines_Number_s1], ?_⟩
    simp only [true_iff]
    exact fun i h => hI i h h
theorem parse_eq (s : List UInt8) (h : numBad s = false) : Lib.parseIntB 64 s = if numVal s < -9223372036854775808 ∨ 9223372036854775807 < numVal s then .range else .ok (numVal s) := by
  have hD : ∃ b t, numD s = b :: t ∧ (b :: t).all isDg = true := by
    unfold numBad at h
    cases hd : numD s with
    | nil => rw [hd] at h; simp at h
    | cons b t => rw [hd] at h; simp only [Bool.or_eq_false_iff, Bool.not_eq_false'] at h; exact ⟨b, t, rfl, h.2⟩
  obtain ⟨b, t, hd, ha⟩ := hD
  have hall : ∀ x ∈ numD s, isDg x = true := by rw [hd]; exact List.all_eq_true.1 ha
  have hb := hall b (by rw [hd]; simp)
  simp only [isDg, Bool.and_eq_true, decide_eq_true_eq] at hb
  have hpu : Lib.parseUintB 64 (numD s) = if numV 0 (numD s) ≤ 18446744073709551615 then .ok (numV 0 (numD s)) else .range := by
    unfold Lib.parseUintB
    rw [if_neg (by rw [hd]; simp)]
    exact parseM _ 0 hall (by omega)
  cases s with
  | nil => simp [numD, numN] at hd
  | cons c r =>
    unfold Lib.parseIntB
    have hN : numN (c :: r) = (c.toNat == 45) := rfl
    by_cases h45 : c.toNat = 45
    · have hn : numN (c :: r) = true := by rw [hN]; simp [h45]
      have hD2 : numD (c :: r) = r := by simp [numD, hn]
      have hv : numVal (c :: r) = -(numV 0 r : Int) := by simp [numVal, hn, hD2]
      rw [hD2] at hpu
      simp only [h45, or_true, if_true, hpu, hv, not_true_eq_false, false_and, if_false, true_and]
      by_cases h1 : numV 0 r ≤ 18446744073709551615
      · rw [if_pos h1]
        simp only
        by_cases h2 : 2 ^ (64 - 1) < numV 0 r
        · rw [if_pos h2, if_pos (by left; simp at h2; omega)]
        · rw [if_neg h2, if_neg (by simp at h2; omega)]
      · rw [if_neg h1, if_pos (by left; omega)]
    · have hn : numN (c :: r) = false := by rw [hN]; simp [h45]
      have hD2 : numD (c :: r) = c :: r := by simp [numD, hn]
      have hv : numVal (c :: r) = (numV 0 (c :: r) : Int) := by simp [numVal, hn, hD2]
      have hcb : c = b := by rw [hD2] at hd; injection hd
      subst hcb
      have h43 : ¬ (c.toNat = 43 ∨ c.toNat = 45) := by omega
      rw [hD2] at hpu
      dsimp only
      rw [if_neg h43]
      simp only [hpu, hv, h45, not_false_eq_true, true_and, false_and, if_false]
      by_cases h1 : numV 0 (c :: r) ≤ 18446744073709551615
      · rw [if_pos h1]
        simp only
        by_cases h2 : 2 ^ (64 - 1) ≤ numV 0 (c :: r)
        · rw [if_pos h2, if_pos (by right; simp at h2; omega)]
        · rw [if_neg h2, if_neg (by simp at h2; omega)]
      · rw [if_neg h1, if_pos (by right; omega)]
theorem lines_Number_eq (s : List UInt8) (lo hi : Int) (hs : s.length ≤ 281474976710656) : g_lines_Number s lo hi = some (numS s lo hi) := by
  have hDl : (numD s).length ≤ s.length := by unfold numD; split <;> simp
  obtain ⟨e, he, hiff⟩ := digs_loop (numD s) (by omega) (numN s)
  simp only [g_lines_Number, cut_eq, Option.bind_some, he]
  unfold numS
  cases hbad : numBad s with
  | true =>
    simp only [if_true]
    unfold numBad at hbad
    cases hd : numD s with
    | nil => simp
    | cons b t =>
      rw [hd] at hbad hiff
      have e0 : ((b :: t) == ([] : List UInt8)) = false := rfl
      have e1 : atI (b :: t) 0 = some b := rfl
      simp only [e0, Bool.false_eq_true, if_false, e1, Option.bind_some]
      by_cases c48 : b.toNat = 48
      · have e2 : ((b.toNat : Int) == 48) = true := by simp [c48]
        simp only [e2, if_true]
        by_cases c1 : 1 < (b :: t).length
        · have e3 : decide (1 < ((b :: t).length : Int)) = true := by simp only [decide_eq_true_eq]; omega
          simp only [e3, if_true, Option.bind_some]
        · have e3 : decide (1 < ((b :: t).length : Int)) = false := by simp only [decide_eq_false_iff_not]; omega
          cases hn : numN s with
          | true => simp only [e3, Bool.false_eq_true, if_false, Option.bind_some, if_true]
          | false =>
            simp only [e3, Bool.false_eq_true, if_false, Option.bind_some]
            have : ¬ e = .inr () := by
              rw [hiff]
              simp only [hn, c48, c1, decide_false, Bool.or_false, Bool.and_false, Bool.false_or, Bool.not_eq_true'] at hbad
              rw [hbad]; simp
            rcases e with e | e
            · simp
            · exact absurd rfl this
      · have e2 : ((b.toNat : Int) == 48) = false := by simp; omega
        have e3 : (b.toNat == 48) = false := by simpa using c48
        simp only [e2, Bool.false_eq_true, if_false, Option.bind_some]
        have : ¬ e = .inr () := by
          rw [hiff]
          simp only [e3, Bool.false_and, Bool.false_or, Bool.not_eq_true'] at hbad
          rw [hbad]; simp
        rcases e with e | e
        · simp
        · exact absurd rfl this
  | false =>
    have hp := parse_eq s hbad
    simp only [Bool.false_eq_true, if_false]
    unfold numBad at hbad
    cases hd : numD s with
    | nil => rw [hd] at hbad; simp at hbad
    | cons b t =>
      rw [hd] at hbad hiff
      simp only [Bool.or_eq_false_iff, Bool.not_eq_false'] at hbad
      have e0 : ((b :: t) == ([] : List UInt8)) = false := rfl
      have e1 : atI (b :: t) 0 = some b := rfl
      have hv : ((if (b :: t == ([] : List UInt8)) = true then some true
          else (atI (b :: t) 0).bind fun b18 => if ((b18.toNat : Int) == 48) = true then if decide (1 < ((b :: t).length : Int)) = true then some true else some (numN s) else some false) : Option Bool) = some false := by
        simp only [e0, Bool.false_eq_true, if_false, e1, Option.bind_some]
        by_cases c48 : b.toNat = 48
        · have e2 : ((b.toNat : Int) == 48) = true := by simp [c48]
          have := hbad.1
          simp only [c48, beq_self_eq_true, Bool.true_and, Bool.or_eq_false_iff, decide_eq_false_iff_not] at this
          have e3 : decide (1 < ((b :: t).length : Int)) = false := by simp only [decide_eq_false_iff_not]; omega
          simp only [e2, e3, if_true, Bool.false_eq_true, if_false, this.2]
        · have e2 : ((b.toNat : Int) == 48) = false := by simp; omega
          simp [e2]
      have hee : e = .inr () := hiff.2 hbad.2
      subst hee
      rw [hd] at *
      simp only [hv, Option.bind_some, Bool.false_eq_true, if_false, g_strconv_ParseInt, true_and, if_pos hs, hp]
      by_cases hr : numVal s < -9223372036854775808 ∨ 9223372036854775807 < numVal s
      · simp only [if_pos hr, Option.bind_some, if_true]
        rw [if_pos (by omega)]
      · have cd : numVal s < -9223372036854775808 ∨ 9223372036854775807 < numVal s ∨ numVal s < lo ∨ hi < numVal s ↔ numVal s < lo ∨ hi < numVal s := by omega
        simp only [if_neg hr, Option.bind_some, Bool.false_eq_true, if_false, cd]
        by_cases h1 : numVal s < lo
        · simp only [h1, decide_true, if_true, Option.bind_some, true_or]
        · by_cases h2 : hi < numVal s
          · simp only [h1, h2, decide_false, decide_true, Bool.false_eq_true, if_false, if_true, Option.bind_some, or_true]
          · simp only [h1, h2, decide_false, Bool.false_eq_true, if_false, Option.bind_some, or_self]
theorem wrap_u64 (x : Int) (h : 0 ≤ x) (h' : x ≤ 18446744073709551615) : IntKind.u64.wrap x = x := by
  simp [IntKind.wrap, IntKind.bits, IntKind.signed]
  omega
theorem digit_dg (b : UInt8) : g_ref07_digit (b.toNat : Int) = some (isDg b) := by
  have h1 : decide (48 ≤ (b.toNat : Int)) = decide (48 ≤ b.toNat) := by simp only [decide_eq_decide]; omega
  have h2 : decide ((b.toNat : Int) ≤ 57) = decide (b.toNat ≤ 57) := by simp only [decide_eq_decide]; omega
  rw [digit_eq, h1, h2]; rfl
theorem rdigs_loop (d : List UInt8) (hd : d.length ≤ 9223372036854775806) : ∃ e, iter (g_ref07_Number_s1 d) 0 = some e ∧ (e = .inr () ↔ d.all isDg = true) := by
  have := iter_cnt (step := g_ref07_Number_s1 d) d.length (by omega) (fun n => ∀ i (h : i < d.length), i < n → isDg d[i] = true) (fun e => (e = .inr () ↔ ∀ i (h : i < d.length), isDg d[i] = true)) (by intro i _ h; omega) ?_ ?_
  · obtain ⟨e, he, h⟩ := this
    refine ⟨e, he, h.trans ?_⟩
    rw [List.all_eq_true]
    exact ⟨fun h x hx => by obtain ⟨i, hi, rfl⟩ := List.getElem_of_mem hx; exact h i hi, fun h i hi => h _ (List.getElem_mem hi)⟩
  · intro i hi hI
    have hw := wrap_i64 ((i : Int) + 1) (by omega) (by omega)
    have hcnd : decide ((i : Int) < (d.length : Int)) = true := by simpa using hi
    simp only [g_ref07_Number_s1, hcnd, if_true, atI_nat hi, Option.bind_some, hw, digit_dg]
    cases hdg : isDg d[i] with
    | false =>
      right
      refine ⟨.inl (), by simp, ?_⟩
      simp only [reduceCtorEq, false_iff]
      intro h; have := h i hi; rw [hdg] at this; cases this
    | true =>
      left
      refine ⟨by simp, fun j hj hlt => ?_⟩
      by_cases hji : j = i
      · subst hji; exact hdg
      · exact hI j hj (by omega)
  · intro hI
    refine ⟨.inr (), by simp [g_ref07_Number_s1], ?_⟩
    simp only [true_iff]
    exact fun i h => hI i h h
theorem racc_loop (d : List UInt8) (hall : ∀ b ∈ d, isDg b = true) (hl : d.length ≤ 19) : iter (g_ref07_Number_s2 d) (0, 0) = some (numV 0 d : Int) := by
  refine iter_of (fun x e => ∃ (i a : Nat), x.2 = (i : Int) ∧ i ≤ d.length ∧ x.1 = (a : Int) ∧ a < 10 ^ i ∧ numV a (d.drop i) = numV 0 d ∧ e = (numV 0 d : Int)) (fun x => d.length - x.2.toNat) ?_ (x := (0, 0)) ⟨0, 0, rfl, by omega, rfl, by simp, by simp, rfl⟩ (by show d.length - _ < _; omega)
  rintro ⟨u, z⟩ e ⟨i, a, hz, hi, hu, ha, hv, rfl⟩
  simp only at hz hu ⊢
  subst hz hu
  by_cases h : i < d.length
  · left
    have hb := hall d[i] (List.getElem_mem h)
    simp only [isDg, Bool.and_eq_true, decide_eq_true_eq] at hb
    have hp : 10 ^ i ≤ 10 ^ 18 := Nat.pow_le_pow_right (by omega) (by omega)
    have ha2 : a < 1000000000000000000 := Nat.lt_of_lt_of_le ha hp
    have w1 := wrap_i64 ((i : Int) + 1) (by omega) (by omega)
    have w2 := wrap_u64 (10 * (a : Int)) (by omega) (by omega)
    have w3 : IntKind.u8.wrap ((d[i].toNat : Int) - 48) = (d[i].toNat : Int) - 48 := wr8 (by omega)
    have w4 := wrap_u64 ((d[i].toNat : Int) - 48) (by omega) (by omega)
    have w5 := wrap_u64 (10 * (a : Int) + ((d[i].toNat : Int) - 48)) (by omega) (by omega)
    have hcnd : decide ((i : Int) < (d.length : Int)) = true := by simpa using h
    refine ⟨(10 * (a : Int) + ((d[i].toNat : Int) - 48), (i : Int) + 1), ?_, ⟨i + 1, a * 10 + (d[i].toNat - 48), by simp, by omega, by simp only; omega, ?_, ?_, by simp⟩, by simp; omega⟩
    · simp only [g_ref07_Number_s2, hcnd, if_true, atI_nat h, Option.bind_some, w1, w2, w3, w4, w5]
    · rw [Nat.pow_succ]; omega
    · rw [← hv, drop_cons h, numV_cons]
  · right
    obtain rfl : i = d.length := by omega
    rw [List.drop_length] at hv
    have hv : a = numV 0 d := hv
    subst hv
    simp [g_ref07_Number_s2]
theorem numV_big (b : UInt8) (t : List UInt8) (hb : b.toNat ≠ 48) (hd : isDg b = true) (hl : 19 < (b :: t).length) : 9223372036854775808 < numV 0 (b :: t) := by
  simp only [isDg, Bool.and_eq_true, decide_eq_true_eq] at hd
  have := numV_ge t (0 * 10 + (b.toNat - 48))
  rw [numV_cons]
  have hp : 10 ^ 19 ≤ 10 ^ t.length := Nat.pow_le_pow_right (by omega) (by simp at hl; omega)
  have h1 : 1 * 10 ^ t.length ≤ (0 * 10 + (b.toNat - 48)) * 10 ^ t.length := Nat.mul_le_mul_right _ (by omega)
  omega
def dBad (neg : Bool) : List UInt8 → Bool
  | [] => true
  | b :: t => b.toNat == 48 && (decide (1 < (b :: t).length) || neg)
theorem ref_tail (d : List UInt8) (neg : Bool) :
    (((if ((d.length : Int) == 0) = true then (some true) else ((atI d 0).bind fun b33 => (if ((b33.toNat : Int) == 48) = true then (if decide (1 < (d.length : Int)) = true then (some true) else (some neg)) else (some false)))) : Option Bool)) = some (dBad neg d) := by
  cases d with
  | nil => rfl
  | cons b t =>
    have e0 : (((b :: t).length : Int) == 0) = false := by simp; omega
    have e1 : atI (b :: t) 0 = some b := rfl
    simp only [e0, Bool.false_eq_true, if_false, e1, Option.bind_some, dBad]
    have e2 : ((b.toNat : Int) == 48) = (b.toNat == 48) := by rw [Bool.eq_iff_iff]; simp; omega
    have e3 : decide (1 < ((b :: t).length : Int)) = decide (1 < (b :: t).length) := by simp only [decide_eq_decide]; omega
    rw [e2, e3]
    cases (b.toNat == 48) <;> cases decide (1 < (b :: t).length) <;> rfl
theorem numBad_eq (s : List UInt8) : numBad s = (dBad (numN s) (numD s) || !((numD s).all isDg)) := by
  unfold numBad dBad
  cases numD s <;> rfl
theorem dBad_false {neg : Bool} {d : List UInt8} (h : dBad neg d = false) : ∃ b t, d = b :: t ∧ (b.toNat = 48 → d.length ≤ 1 ∧ neg = false) := by
  cases d with
  | nil => cases h
  | cons b t =>
    refine ⟨b, t, rfl, fun h48 => ?_⟩
    simp only [dBad, h48, beq_self_eq_true, Bool.true_and, Bool.or_eq_false_iff, decide_eq_false_iff_not] at h
    exact ⟨by omega, h.2⟩
theorem ref_Number_eq (s : List UInt8) (lo hi : Int) (hs : s.length ≤ 9223372036854775806) : g_ref07_Number s lo hi = some (numS s lo hi) := by
  have hv9 : (((if (decide (0 < (s.length : Int))) then ((atI s 0).bind fun b12 => (some ((b12.toNat : Int) == 45))) else (some false)) : Option (Bool))) = some (numN s) := by
    cases s with
    | nil => rfl
    | cons b t =>
      have e0 : decide (0 < ((b :: t).length : Int)) = true := by simp only [decide_eq_true_eq, List.length_cons]; omega
      have e1 : atI (b :: t) 0 = some b := rfl
      have e2 : ((b.toNat : Int) == 45) = (b.toNat == 45) := by rw [Bool.eq_iff_iff]; simp; omega
      simp only [e0, if_true, e1, Option.bind_some, e2]; rfl
  have hDl : (numD s).length ≤ s.length := by unfold numD; split <;> simp
  obtain ⟨e, he, hiff⟩ := rdigs_loop (numD s) (by omega)
  have he3 : iter (g_ref07_Number_s3 (numD s)) 0 = some e := he
  have htail := ref_tail (numD s) (numN s)
  have hacc := racc_loop (numD s)
  have hacc4 : (∀ b ∈ numD s, isDg b = true) → (numD s).length ≤ 19 → iter (g_ref07_Number_s4 (numD s)) (0, 0) = some (numV 0 (numD s) : Int) := racc_loop (numD s)
  have hbad := numBad_eq s
  simp only [g_ref07_Number, hv9, Option.bind_some]
  unfold numS numVal
  cases hn : numN s with
  | true =>
    have hD : numD s = s.drop 1 := by simp [numD, hn]
    have hl1 : 1 ≤ s.length := by cases s with | nil => simp [numN] at hn | cons b t => simp
    have hsub : subL s 1 = some (numD s) := by rw [hD]; exact subL_nat (i := 1) hl1
    rw [hn] at htail hbad
    simp only [if_true, hsub, Option.bind_some, htail, he, hbad]
    generalize numD s = d at *
    cases hc : dBad true d with
    | true => simp
    | false =>
      obtain ⟨b, t, rfl, h48⟩ := dBad_false hc
      have hb48 : b.toNat ≠ 48 := fun h => by have := (h48 h).2; cases this
      simp only [Bool.false_or, Bool.false_eq_true, if_false]
      cases hall : (b :: t).all isDg with
      | false =>
        have : ¬ e = .inr () := by rw [hiff, hall]; simp
        rcases e with e | e
        · simp
        · exact absurd rfl this
      | true =>
        obtain rfl := hiff.2 hall
        have hal := List.all_eq_true.1 hall
        simp only [Bool.not_true, Bool.false_eq_true, if_false]
        by_cases hbig : 19 < (b :: t).length
        · have e4 : decide (19 < ((b :: t).length : Int)) = true := by simp only [decide_eq_true_eq]; omega
          have := numV_big b t hb48 (hal b (by simp)) hbig
          simp only [e4, if_true]
          rw [if_pos (by omega)]
        · have e4 : decide (19 < ((b :: t).length : Int)) = false := by simp only [decide_eq_false_iff_not]; omega
          have hle := numV_le (b :: t) 0 hal
          have hp : 10 ^ (b :: t).length ≤ 10 ^ 19 := Nat.pow_le_pow_right (by omega) (by omega)
          simp only [e4, Bool.false_eq_true, if_false, hacc hal (by omega), Option.bind_some]
          generalize numV 0 (b :: t) = v at *
          by_cases h1 : 9223372036854775808 < v
          · have e5 : decide (9223372036854775808 < (v : Int)) = true := by simp only [decide_eq_true_eq]; omega
            simp only [e5, if_true, Option.bind_some]
            rw [if_pos (by omega)]
          · have e5 : decide (9223372036854775808 < (v : Int)) = false := by simp only [decide_eq_false_iff_not]; omega
            have hw : IntKind.i64.wrap (0 - IntKind.i64.wrap (v : Int)) = -(v : Int) := by
              by_cases h2 : v = 9223372036854775808
              · subst h2; rfl
              · rw [wrap_i64 (v : Int) (by omega) (by omega), wrap_i64 (0 - (v : Int)) (by omega) (by omega)]; omega
            simp only [e5, Bool.false_eq_true, if_false, Option.bind_some, hw]
            have cd : -(v : Int) < -9223372036854775808 ∨ 9223372036854775807 < -(v : Int) ∨ -(v : Int) < lo ∨ hi < -(v : Int) ↔ -(v : Int) < lo ∨ hi < -(v : Int) := by omega
            simp only [cd]
            by_cases h3 : -(v : Int) < lo
            · simp only [h3, decide_true, if_true, true_or]
            · by_cases h4 : hi < -(v : Int)
              · simp only [h3, h4, decide_false, decide_true, Bool.false_eq_true, if_false, if_true, or_true]
              · simp only [h3, h4, decide_false, Bool.false_eq_true, if_false, or_self]
  | false =>
    have hD : numD s = s := by simp [numD, hn]
    rw [hn] at htail hbad
    rw [hD] at he3 hacc4 hiff htail hbad
    simp only [Bool.false_eq_true, if_false, htail, Option.bind_some, he3, hD, hbad]
    clear hv9 he hacc hDl hbad htail hD hn
    cases hc : dBad false s with
    | true => simp
    | false =>
      obtain ⟨b, t, rfl, h48⟩ := dBad_false hc
      simp only [Bool.false_or, Bool.false_eq_true, if_false]
      cases hall : (b :: t).all isDg with
      | false =>
        have : ¬ e = .inr () := by rw [hiff, hall]; simp
        rcases e with e | e
        · simp
        · exact absurd rfl this
      | true =>
        obtain rfl := hiff.2 hall
        have hal := List.all_eq_true.1 hall
        simp only [Bool.not_true, Bool.false_eq_true, if_false]
        by_cases hbig : 19 < (b :: t).length
        · have hb48 : b.toNat ≠ 48 := fun h => by have := (h48 h).1; omega
          have e4 : decide (19 < ((b :: t).length : Int)) = true := by simp only [decide_eq_true_eq]; omega
          have := numV_big b t hb48 (hal b (by simp)) hbig
          simp only [e4, if_true]
          rw [if_pos (by omega)]
        · have e4 : decide (19 < ((b :: t).length : Int)) = false := by simp only [decide_eq_false_iff_not]; omega
          have hle := numV_le (b :: t) 0 hal
          have hp : 10 ^ (b :: t).length ≤ 10 ^ 19 := Nat.pow_le_pow_right (by omega) (by omega)
          simp only [e4, Bool.false_eq_true, if_false, hacc4 hal (by omega), Option.bind_some]
          generalize numV 0 (b :: t) = v at *
          by_cases h1 : 9223372036854775808 < v
          · have e5 : decide (9223372036854775808 < (v : Int)) = true := by simp only [decide_eq_true_eq]; omega
            simp only [e5, if_true, Option.bind_some]
            rw [if_pos (by omega)]
          · have e5 : decide (9223372036854775808 < (v : Int)) = false := by simp only [decide_eq_false_iff_not]; omega
            by_cases h2 : v = 9223372036854775808
            · have e6 : ((v : Int) == 9223372036854775808) = true := by simp; omega
              simp only [e5, e6, Bool.false_eq_true, if_false, if_true, Option.bind_some]
              rw [if_pos (by omega)]
            · have e6 : ((v : Int) == 9223372036854775808) = false := by simp; omega
              have hw : IntKind.i64.wrap (v : Int) = v := wrap_i64 (v : Int) (by omega) (by omega)
              simp only [e5, e6, Bool.false_eq_true, if_false, Option.bind_some, hw]
              have cd : (v : Int) < -9223372036854775808 ∨ 9223372036854775807 < (v : Int) ∨ (v : Int) < lo ∨ hi < (v : Int) ↔ (v : Int) < lo ∨ hi < (v : Int) := by omega
              simp only [cd]
              by_cases h3 : (v : Int) < lo
              · simp only [h3, decide_true, if_true, true_or]
              · by_cases h4 : hi < (v : Int)
                · simp only [h3, h4, decide_false, decide_true, Bool.false_eq_true, if_false, if_true, or_true]
                · simp only [h3, h4, decide_false, Bool.false_eq_true, if_false, or_self]
theorem decDigits_len (u : Nat) (hu : u ≤ 18446744073709551615) : (Lib.decDigits u).length ≤ 20 := by
  rw [Lib.decDigits_length]; exact Lib.nDigits_le20 u (by omega)
/-- Decimals. -/
theorem dig_sub (u : Nat) (h : u < 10) : subI ([48, 49, 50, 51, 52, 53, 54, 55, 56, 57] : List UInt8) (u : Int) ((u : Int) + 1) = some [UInt8.ofNat (48 + u)] := by
  have := sub1 (s := ([48, 49, 50, 51, 52, 53, 54, 55, 56, 57] : List UInt8)) (i := u) (by simpa using h)
  rw [this]
  congr 2
  have key : ∀ v : Fin 10, ([48, 49, 50, 51, 52, 53, 54, 55, 56, 57] : List UInt8)[v.val] = UInt8.ofNat (48 + v.val) := by decide
  exact key ⟨u, h⟩
theorem dec_loop (u : Nat) (hu : u ≤ 18446744073709551615) : ∃ (v : Nat) (t : List UInt8), iter g_ref07_Decimal_s1 ((u : Int), []) = some ((v : Int), t) ∧ v < 10 ∧ t.length ≤ 30 ∧ UInt8.ofNat (48 + v) :: t = Lib.decDigits u := by
  have := iter_post (step := g_ref07_Decimal_s1) (fun x => ∃ (v : Nat), x.1 = (v : Int) ∧ v ≤ u ∧ v * 10 ^ x.2.length ≤ u ∧ Lib.decDigits v ++ x.2 = Lib.decDigits u) (fun x => x.1.toNat)
    (fun e => ∃ (v : Nat) (t : List UInt8), e = ((v : Int), t) ∧ v < 10 ∧ t.length ≤ 30 ∧ UInt8.ofNat (48 + v) :: t = Lib.decDigits u) (x := ((u : Int), [])) ⟨u, rfl, Nat.le_refl _, by simp, by simp⟩ (by show (u : Int).toNat < _; omega) ?_
  · obtain ⟨e, he, v, t, rfl, h⟩ := this
    exact ⟨v, t, he, h⟩
  · rintro ⟨z, t⟩ ⟨v, hz, hvu, hpow, happ⟩
    simp only at hz hpow happ ⊢
    subst hz
    have ht : 1 ≤ v → t.length ≤ 19 := by
      intro hv
      rcases Nat.lt_or_ge t.length 20 with h | h
      · omega
      · exfalso
        have hp : 10 ^ 20 ≤ 10 ^ t.length := Nat.pow_le_pow_right (by omega) h
        have : 1 * 10 ^ t.length ≤ v * 10 ^ t.length := Nat.mul_le_mul_right _ hv
        omega
    by_cases h10 : 10 ≤ v
    · left
      have e1 : decide (10 ≤ (v : Int)) = true := by simp only [decide_eq_true_eq]; omega
      have hm : Int.tmod (v : Int) 10 = ((v % 10 : Nat) : Int) := by rw [Int.tmod_eq_emod_of_nonneg (by omega)]; omega
      have hq : Int.tdiv (v : Int) 10 = ((v / 10 : Nat) : Int) := by rw [Int.tdiv_eq_ediv_of_nonneg (by omega)]; omega
      have w1 := wrap_u64 (((v % 10 : Nat) : Int) + 1) (by omega) (by omega)
      have w2 := wrap_u64 ((v / 10 : Nat) : Int) (by omega) (by omega)
      have htl := ht (by omega)
      refine ⟨(((v / 10 : Nat) : Int), [UInt8.ofNat (48 + v % 10)] ++ t), ?_, ⟨v / 10, rfl, by omega, ?_, ?_⟩, by simp only [Int.toNat_natCast]; omega⟩
      · simp only [g_ref07_Decimal_s1, e1, if_true, hm, hq, w1, w2, dig_sub (v % 10) (by omega), Option.bind_some]
        rw [if_pos (by simp; omega)]
      · simp only [List.length_append, List.length_cons, List.length_nil, Nat.zero_add, Nat.pow_add, Nat.pow_one]
        have : v / 10 * 10 ≤ v := Nat.div_mul_le_self v 10
        calc v / 10 * (10 * 10 ^ t.length) = (v / 10 * 10) * 10 ^ t.length := by rw [Nat.mul_assoc]
          _ ≤ v * 10 ^ t.length := Nat.mul_le_mul_right _ this
          _ ≤ u := hpow
      · rw [← happ, ← List.append_assoc]
        congr 1
        conv => rhs; rw [Lib.decDigits, dif_neg (by omega)]
    · right
      have e1 : decide (10 ≤ (v : Int)) = false := by simp only [decide_eq_false_iff_not]; omega
      refine ⟨((v : Int), t), by simp [g_ref07_Decimal_s1, e1], v, t, rfl, by omega, ?_, ?_⟩
      · rcases Nat.eq_zero_or_pos v with h0 | h0
        · subst h0
          have hl := congrArg List.length happ
          rw [List.length_append, Lib.decDigits_one (by omega)] at hl
          have hn := decDigits_len u (by omega)
          simp at hl; omega
        · have := ht h0; omega
      · rw [← happ, Lib.decDigits_one (by omega)]; rfl
theorem itoa_nat (u : Nat) : Lib.itoa (u : Int) = Lib.decDigits u := Lib.itoa_nonneg u
theorem ref_Decimal_eq (n : Int) (h0 : -9223372036854775808 ≤ n) (h1 : n ≤ 9223372036854775807) : g_ref07_Decimal n = some (Lib.itoa n) := by
  by_cases hn : n < 0
  · obtain ⟨u, rfl, hu⟩ : ∃ u : Nat, n = -(u : Int) ∧ 1 ≤ u := ⟨n.natAbs, by omega, by omega⟩
    have hw : IntKind.u64.wrap (0 - IntKind.u64.wrap (-(u : Int))) = (u : Int) := by
      simp [IntKind.wrap, IntKind.bits, IntKind.signed]
      omega
    obtain ⟨v, t, he, hv, ht, hd⟩ := dec_loop u (by omega)
    have w1 := wrap_u64 ((v : Int) + 1) (by omega) (by omega)
    have e1 : decide (-(u : Int) < 0) = true := by simp only [decide_eq_true_eq]; omega
    simp only [g_ref07_Decimal, e1, if_true, hw, he, Option.bind_some, w1, dig_sub v hv]
    rw [if_pos (by simp), if_pos (by simp; omega), Lib.itoa_neg u hu, ← hd]
    rfl
  · obtain ⟨u, rfl⟩ : ∃ u : Nat, n = (u : Int) := ⟨n.toNat, by omega⟩
    have hw := wrap_u64 (u : Int) (by omega) (by omega)
    obtain ⟨v, t, he, hv, ht, hd⟩ := dec_loop u (by omega)
    have he2 : iter g_ref07_Decimal_s2 ((u : Int), []) = some ((v : Int), t) := he
    have w1 := wrap_u64 ((v : Int) + 1) (by omega) (by omega)
    have e1 : decide ((u : Int) < 0) = false := by simp
    simp only [g_ref07_Decimal, e1, Bool.false_eq_true, if_false, hw, he2, Option.bind_some, w1, dig_sub v hv]
    rw [if_pos (by simp), if_pos (by simp; omega), Lib.itoa_nonneg u, ← hd]
    rfl
theorem numV_snoc (l : List UInt8) (acc : Nat) (b : UInt8) : numV acc (l ++ [b]) = numV acc l * 10 + (b.toNat - 48) := by
  unfold numV; rw [List.foldl_append]; rfl
theorem dgt (k : Nat) (h : k < 10) : (UInt8.ofNat (48 + k)).toNat = 48 + k := by
  have : ∀ v : Fin 10, (UInt8.ofNat (48 + v.val)).toNat = 48 + v.val := by decide
  exact this ⟨k, h⟩
theorem dec_facts (u : Nat) : numV 0 (Lib.decDigits u) = u ∧ (Lib.decDigits u).all isDg = true ∧ ∃ b t, Lib.decDigits u = b :: t ∧ (1 ≤ u → b.toNat ≠ 48) := by
  induction u using Nat.strongRecOn with
  | _ u ih =>
    by_cases h : u < 10
    · rw [Lib.decDigits_one h]
      refine ⟨by rw [numV_cons, dgt u h]; show 0 * 10 + (48 + u - 48) = u; omega, ?_, _, [], rfl, fun h1 => by rw [dgt u h]; omega⟩
      simp [isDg, dgt u h]; omega
    · obtain ⟨i1, i2, b, t, i3, i4⟩ := ih (u / 10) (by omega)
      rw [Lib.decDigits, dif_neg h]
      refine ⟨?_, ?_, b, t ++ [UInt8.ofNat (48 + u % 10)], by rw [i3]; rfl, fun _ => i4 (by omega)⟩
      · rw [numV_snoc, i1, dgt _ (by omega)]; omega
      · rw [List.all_append, i2]
        simp [isDg, dgt (u % 10) (by omega)]; omega
theorem numS_itoa (n : Int) (h0 : -9223372036854775808 ≤ n) (h1 : n ≤ 9223372036854775807) : numS (Lib.itoa n) n n = (n, 0) := by
  by_cases hn : n < 0
  · obtain ⟨u, rfl, hu⟩ : ∃ u : Nat, n = -(u : Int) ∧ 1 ≤ u := ⟨n.natAbs, by omega, by omega⟩
    rw [Lib.itoa_neg u hu]
    obtain ⟨d1, d2, b, t, d3, d4⟩ := dec_facts u
    have hN : numN (45 :: Lib.decDigits u) = true := rfl
    have hD : numD (45 :: Lib.decDigits u) = Lib.decDigits u := by simp [numD, hN]
    have hB : numBad (45 :: Lib.decDigits u) = false := by
      unfold numBad
      rw [hD, d3]
      rw [d3] at d2
      have : (b.toNat == 48) = false := by simpa using d4 hu
      simp only [this, Bool.false_and, Bool.false_or, d2, Bool.not_true]
    have hV : numVal (45 :: Lib.decDigits u) = -(u : Int) := by unfold numVal; rw [hN, hD, d1]; rfl
    unfold numS
    rw [hB, hV]
    simp only [Bool.false_eq_true, if_false]
    rw [if_neg (by omega)]
  · obtain ⟨u, rfl⟩ : ∃ u : Nat, n = (u : Int) := ⟨n.toNat, by omega⟩
    rw [Lib.itoa_nonneg u]
    obtain ⟨d1, d2, b, t, d3, d4⟩ := dec_facts u
    have hb := List.all_eq_true.1 d2 b (by rw [d3]; simp)
    simp only [isDg, Bool.and_eq_true, decide_eq_true_eq] at hb
    have hN : numN (Lib.decDigits u) = false := by
      rw [d3]; simp [numN]; omega
    have hD : numD (Lib.decDigits u) = Lib.decDigits u := by simp [numD, hN]
    have hB : numBad (Lib.decDigits u) = false := by
      unfold numBad
      rw [hD, hN]
      cases Nat.eq_zero_or_pos u with
      | inl hz => subst hz; decide +kernel
      | inr hp =>
        rw [d3]
        rw [d3] at d2
        have : (b.toNat == 48) = false := by simpa using d4 hp
        simp only [this, Bool.false_and, Bool.false_or, d2, Bool.not_true]
    have hV : numVal (Lib.decDigits u) = (u : Int) := by unfold numVal; rw [hN, hD, d1]; rfl
    unfold numS
    rw [hB, hV]
    simp only [Bool.false_eq_true, if_false]
    rw [if_neg (by omega)]
theorem numS_zero (l : List UInt8) (hl : l ≠ []) (lo hi : Int) : numS ([48] ++ l) lo hi = (0, 4) := by
  have hN : numN ([48] ++ l) = false := rfl
  have hD : numD ([48] ++ l) = 48 :: l := by unfold numD; rw [hN]; rfl
  have hB : numBad ([48] ++ l) = true := by
    unfold numBad
    rw [hD, hN]
    have : decide (1 < (48 :: l).length) = true := by
      cases l with
      | nil => exact absurd rfl hl
      | cons a b => simp
    simp only [this]
    rfl
  unfold numS
  rw [hB]; rfl
theorem itoa_ne (n : Int) : Lib.itoa n ≠ [] := by
  unfold Lib.itoa
  split
  · simp
  · obtain ⟨_, _, b, t, d3, _⟩ := dec_facts n.toNat
    rw [d3]; simp
/-- The error of a region. -/
def chk (r : T_api_Region) : Int :=
  if isNm r.Name then
    if 0 ≤ r.Top ∧ r.Top ≤ 14 ∧ 1 ≤ r.Height ∧ r.Height ≤ 15 - r.Top ∧ 0 ≤ r.Left ∧ r.Left ≤ 31 ∧ 1 ≤ r.Width ∧ r.Width ≤ 32 - r.Left then
      if 1 ≤ r.Align ∧ r.Align ≤ 3 then 0 else 3
    else 2
  else 5
theorem from_eq (n a b : Int) : g_region_from n a b = some (decide (a ≤ n ∧ n ≤ b)) := by
  simp only [g_region_from]; grind
theorem wrapTop {x : Int} (h : 0 ≤ x ∧ x ≤ 14) : IntKind.i64.wrap (15 - x) = 15 - x := wrap_i64 _ (by omega) (by omega)
theorem wrapLeft {x : Int} (h : 0 ≤ x ∧ x ≤ 31) : IntKind.i64.wrap (32 - x) = 32 - x := wrap_i64 _ (by omega) (by omega)
theorem region_Check_eq (r : T_api_Region) : g_region_Check r = some (chk r) := by
  simp only [g_region_Check, lines_Name_eq, from_eq, Option.bind_some, chk]
  by_cases h1 : 0 ≤ r.Top ∧ r.Top ≤ 14 <;> by_cases h2 : 0 ≤ r.Left ∧ r.Left ≤ 31
  · simp only [wrapTop h1, wrapLeft h2]; grind
  · simp only [wrapTop h1]; grind
  · grind
  · grind
theorem ref10_Check_eq (r : T_api_Region) : g_ref10_Check r = some (chk r) := by
  simp only [g_ref10_Check, ref07_Name_eq, Option.bind_some, chk]
  by_cases h1 : 0 ≤ r.Top ∧ r.Top ≤ 14 <;> by_cases h2 : 0 ≤ r.Left ∧ r.Left ≤ 31
  · simp only [wrapTop h1, wrapLeft h2]; grind
  · simp only [wrapTop h1]; grind
  · grind
  · grind
theorem awake10 : g_law10_awake = some true := by decide +kernel
/-- A region that lies in the grid. -/
def geo (r : T_api_Region) : Prop := 0 ≤ r.Top ∧ r.Top ≤ 14 ∧ 1 ≤ r.Height ∧ r.Height ≤ 15 - r.Top ∧ 0 ≤ r.Left ∧ r.Left ≤ 31 ∧ 1 ≤ r.Width ∧ r.Width ≤ 32 - r.Left
def us (r : T_api_Region) : Bool := ((r.Name == []) && ((r.Top == 11) && ((r.Height == 4) && ((r.Left == 0) && ((r.Width == 32) && ((r.Align == 2) && (r.Bottom == true))))))) || chk r == 0
theorem usable_eq (r : T_api_Region) : g_region_usable r = some (us r) := by
  simp only [g_region_usable, g_region_Default, Option.bind_some, region_Check_eq, us]
  grind
theorem chk_geo {r : T_api_Region} (h : chk r = 0) : geo r := by
  unfold chk at h; unfold geo; grind
theorem us_geo {r : T_api_Region} (h : us r = true) : geo r := by
  simp only [us, Bool.or_eq_true, beq_iff_eq] at h
  rcases h with h | h
  · unfold geo; grind
  · exact chk_geo h
theorem us_chk {r : T_api_Region} (h : chk r = 0) : us r = true := by simp [us, h]
def ov (a b : T_api_Region) : Bool := us a && us b && decide (a.Top < b.Top + b.Height ∧ b.Top < a.Top + a.Height ∧ a.Left < b.Left + b.Width ∧ b.Left < a.Left + a.Width)
theorem geo_w1 {r : T_api_Region} (h : geo r) : IntKind.i64.wrap (r.Top + r.Height) = r.Top + r.Height := by unfold geo at h; exact wrap_i64 _ (by omega) (by omega)
theorem geo_w2 {r : T_api_Region} (h : geo r) : IntKind.i64.wrap (r.Left + r.Width) = r.Left + r.Width := by unfold geo at h; exact wrap_i64 _ (by omega) (by omega)
theorem tdiv2 {x : Int} (h : 0 ≤ x) : Int.tdiv x 2 = x / 2 := Int.tdiv_eq_ediv_of_nonneg h
/-- What is known of a placed row. -/
def spOk (r : T_api_Region) (lens : List Int) (b : Int) (j : Nat) (y : T_api_Spot) : Prop :=
  ∃ m, lens[j]? = some m ∧ 0 ≤ m ∧ m ≤ r.Width ∧ y.Len = m ∧ y.Row = b + j ∧ r.Left ≤ y.Col ∧ y.Col + m ≤ r.Left + r.Width
def acOk (r : T_api_Region) (lens : List Int) (b : Int) (acc : List T_api_Spot) : Prop := ∀ (j : Nat) (y : T_api_Spot), acc[j]? = some y → spOk r lens b j y
theorem acOk.snoc {r : T_api_Region} {lens : List Int} {b : Int} {acc : List T_api_Spot} (h : acOk r lens b acc) {y : T_api_Spot} (hy : spOk r lens b acc.length y) : acOk r lens b (acc ++ [y]) := by
  intro j z hz
  rw [List.getElem?_append] at hz
  split at hz
  · exact h j z hz
  · have : j = acc.length := by
      rcases Nat.lt_or_ge (j - acc.length) 1 with h1 | h1
      · omega
      · rw [List.getElem?_eq_none (by simpa using h1)] at hz; cases hz
    subst this
    simp at hz
    subst hz
    exact hy
def plOk (r : T_api_Region) (lens : List Int) (b : Int) (e : Int ⊕ List T_api_Spot) : Prop := match e with
  | .inl c => c ≠ 0
  | .inr l => l.length = lens.length ∧ acOk r lens b l
theorem Place_s1 (r : T_api_Region) (lens : List Int) (hg : geo r) (hl : (lens.length : Int) ≤ r.Height) : ∃ e, iter (g_region_Place_s1 r lens) ([], 0) = some e ∧ plOk r lens (r.Top + r.Height - lens.length) e := by
  unfold geo at hg
  refine iter_post (fun x => x.2 = (x.1.length : Int) ∧ x.1.length ≤ lens.length ∧ acOk r lens (r.Top + r.Height - lens.length) x.1) (fun x => lens.length - x.1.length) _ ⟨rfl, Nat.zero_le _, by intro j y h; simp at h⟩ (by show lens.length - _ < _; omega) ?_
  rintro ⟨acc, x⟩ ⟨hx, hle, hok⟩
  simp only at hx hle hok
  subst hx
  by_cases hlt : acc.length < lens.length
  · simp only [g_region_Place_s1, atI_nat hlt, Option.bind_some]
    have hat : lens[acc.length]? = some lens[acc.length] := List.getElem?_eq_getElem hlt
    generalize lens[acc.length] = m at hat
    have w1 := wrap_i64 ((acc.length : Int) + 1) (by omega) (by omega)
    have w2 := wrap_i64 (r.Height - (lens.length : Int)) (by omega) (by omega)
    have w3 := wrap_i64 (r.Top + (r.Height - (lens.length : Int))) (by omega) (by omega)
    have w4 := wrap_i64 (r.Top + (r.Height - (lens.length : Int)) + (acc.length : Int)) (by omega) (by omega)
    by_cases hm : 0 ≤ m ∧ m ≤ r.Width
    · left
      have w5 := wrap_i64 (r.Width - m) (by omega) (by omega)
      have w6 := wrap_i64 (r.Left + (r.Width - m)) (by omega) (by omega)
      have w7 := tdiv2 (x := r.Width - m) (by omega)
      have w8 := wrap_i64 ((r.Width - m) / 2) (by omega) (by omega)
      have w9 := wrap_i64 (r.Left + (r.Width - m) / 2) (by omega) (by omega)
      simp only [w1, w2, w3, w4, w5, w6, w7, w8, w9]
      have hd : decide ((acc.length : Int) < (lens.length : Int)) = true := by simp [hlt]
      have hn1 : decide (m < 0) = false := by simp; omega
      have hn2 : decide (r.Width < m) = false := by simp; omega
      have hsz : (acc.length + 1) * 24 ≤ 140737488355328 := by omega
      simp only [hd, hn1, hn2, hsz, if_true, if_false, Bool.false_eq_true]
      by_cases h3 : r.Align = 3
      · simp only [h3]
        refine ⟨_, rfl, ⟨by simp, by simp; omega, hok.snoc ⟨m, hat, hm.1, hm.2, rfl, by simp only; omega, by simp only; omega, by simp only; omega⟩⟩, by simp; omega⟩
      · by_cases h2 : r.Align = 2
        · simp only [h2]
          refine ⟨_, rfl, ⟨by simp, by simp; omega, hok.snoc ⟨m, hat, hm.1, hm.2, rfl, by simp only; omega, by simp only; omega, by simp only; omega⟩⟩, by simp; omega⟩
        · have e3 : (r.Align == 3) = false := by simpa using h3
          have e2 : (r.Align == 2) = false := by simpa using h2
          simp only [e3, e2, Bool.false_eq_true, if_false]
          refine ⟨_, rfl, ⟨by simp, by simp; omega, hok.snoc ⟨m, hat, hm.1, hm.2, rfl, by simp only; omega, by simp only; omega, by simp only; omega⟩⟩, by simp; omega⟩
    · right
      by_cases h0 : m < 0
      · exact ⟨.inl 2, by simp [hlt, h0], by simp [plOk]⟩
      · have : r.Width < m := by omega
        exact ⟨.inl 11, by simp [hlt, h0, this], by simp [plOk]⟩
  · right
    exact ⟨.inr acc, by simp [g_region_Place_s1, hlt], by omega, hok⟩
theorem Place_s2 (r : T_api_Region) (lens : List Int) (hg : geo r) (hl : (lens.length : Int) ≤ r.Height) : ∃ e, iter (g_region_Place_s2 r lens) ([], 0) = some e ∧ plOk r lens r.Top e := by
  unfold geo at hg
  refine iter_post (fun x => x.2 = (x.1.length : Int) ∧ x.1.length ≤ lens.length ∧ acOk r lens r.Top x.1) (fun x => lens.length - x.1.length) _ ⟨rfl, Nat.zero_le _, by intro j y h; simp at h⟩ (by show lens.length - _ < _; omega) ?_
  rintro ⟨acc, x⟩ ⟨hx, hle, hok⟩
  simp only at hx hle hok
  subst hx
  by_cases hlt : acc.length < lens.length
  · simp only [g_region_Place_s2, atI_nat hlt, Option.bind_some]
    have hat : lens[acc.length]? = some lens[acc.length] := List.getElem?_eq_getElem hlt
    generalize lens[acc.length] = m at hat
    have w1 := wrap_i64 ((acc.length : Int) + 1) (by omega) (by omega)
    have w4 := wrap_i64 (r.Top + (acc.length : Int)) (by omega) (by omega)
    by_cases hm : 0 ≤ m ∧ m ≤ r.Width
    · left
      have w5 := wrap_i64 (r.Width - m) (by omega) (by omega)
      have w6 := wrap_i64 (r.Left + (r.Width - m)) (by omega) (by omega)
      have w7 := tdiv2 (x := r.Width - m) (by omega)
      have w8 := wrap_i64 ((r.Width - m) / 2) (by omega) (by omega)
      have w9 := wrap_i64 (r.Left + (r.Width - m) / 2) (by omega) (by omega)
      simp only [w1, w4, w5, w6, w7, w8, w9]
      have hd : decide ((acc.length : Int) < (lens.length : Int)) = true := by simp [hlt]
      have hn1 : decide (m < 0) = false := by simp; omega
      have hn2 : decide (r.Width < m) = false := by simp; omega
      have hsz : (acc.length + 1) * 24 ≤ 140737488355328 := by omega
      simp only [hd, hn1, hn2, hsz, if_true, if_false, Bool.false_eq_true]
      by_cases h3 : r.Align = 3
      · simp only [h3]
        refine ⟨_, rfl, ⟨by simp, by simp; omega, hok.snoc ⟨m, hat, hm.1, hm.2, rfl, by simp only, by simp only; omega, by simp only; omega⟩⟩, by simp; omega⟩
      · by_cases h2 : r.Align = 2
        · simp only [h2]
          refine ⟨_, rfl, ⟨by simp, by simp; omega, hok.snoc ⟨m, hat, hm.1, hm.2, rfl, by simp only, by simp only; omega, by simp only; omega⟩⟩, by simp; omega⟩
        · have e3 : (r.Align == 3) = false := by simpa using h3
          have e2 : (r.Align == 2) = false := by simpa using h2
          simp only [e3, e2, Bool.false_eq_true, if_false]
          refine ⟨_, rfl, ⟨by simp, by simp; omega, hok.snoc ⟨m, hat, hm.1, hm.2, rfl, by simp only, by simp only; omega, by simp only; omega⟩⟩, by simp; omega⟩
    · right
      by_cases h0 : m < 0
      · exact ⟨.inl 2, by simp [hlt, h0], by simp [plOk]⟩
      · have : r.Width < m := by omega
        exact ⟨.inl 11, by simp [hlt, h0, this], by simp [plOk]⟩
  · right
    exact ⟨.inr acc, by simp [g_region_Place_s2, hlt], by omega, hok⟩
theorem Place_post (r : T_api_Region) (lens : List Int) : ∃ res, g_region_Place r lens = some res ∧ (res.2 ≠ 0 → res.1 = []) ∧ (res.2 = 0 → us r = true ∧ ∃ b, r.Top ≤ b ∧ b + lens.length ≤ r.Top + r.Height ∧ res.1.length = lens.length ∧ acOk r lens b res.1) := by
  simp only [g_region_Place, usable_eq, Option.bind_some]
  by_cases hu : us r = true
  · have hg := us_geo hu
    by_cases hh : r.Height < (lens.length : Int)
    · exact ⟨([], 9), by simp [hu, hh], by simp, by simp⟩
    · simp only [hu, hh, decide_false, Bool.false_eq_true, if_true, if_false]
      by_cases hb : r.Bottom = true
      · obtain ⟨e, he, hp⟩ := Place_s1 r lens hg (by omega)
        simp only [hb, if_true, he, Option.bind_some]
        rcases e with c | l
        · exact ⟨([], c), rfl, fun _ => rfl, fun h => absurd h hp⟩
        · exact ⟨(l, 0), rfl, fun h => absurd rfl h, fun _ => ⟨trivial, _, by omega, by omega, hp.1, hp.2⟩⟩
      · obtain ⟨e, he, hp⟩ := Place_s2 r lens hg (by omega)
        simp only [hb, if_false, Bool.false_eq_true, he, Option.bind_some]
        rcases e with c | l
        · exact ⟨([], c), rfl, fun _ => rfl, fun h => absurd h hp⟩
        · exact ⟨(l, 0), rfl, fun h => absurd rfl h, fun _ => ⟨trivial, _, Int.le_refl _, by omega, hp.1, hp.2⟩⟩
  · exact ⟨([], 1), by simp [hu], by simp, by simp⟩
theorem ov_comm (a b : T_api_Region) : ov a b = ov b a := by
  simp only [ov]; grind
end Go.Proofs.YtipdmcpmedmicaaDoor
