/- Layer 07, plain: quoted strings and words. -/
import Derived.Test.YtncmdhkmbmkiiaaDoorFwZ
import Derived.Test.YtncmdhkmbmkiiaaDoorGE
set_option linter.unusedSimpArgs false
set_option linter.unusedVariables false
namespace Go.Proofs.YtncmdhkmbmkiiaaDoor
set_option maxRecDepth 100000

/-- What a quoted string is read as, behind its first quote: the text and how many bytes; or where the first wrong byte stands; or it does not end. -/
inductive QR where
  | ok (text : List UInt8) (n : Nat)
  | bad (n : Nat)
  | stop
def QR.sh (k : Nat) (pre : List UInt8) : QR → QR
  | .ok t n => .ok (pre ++ t) (k + n)
  | .bad n => .bad (k + n)
  | .stop => .stop
def qS : List UInt8 → QR
  | [] => .stop
  | b :: t =>
    if b.toNat = 34 then (if t.head?.any (fun c => c.toNat != 32) then .bad 1 else .ok [] 1)
    else if b.toNat = 92 then
      match t with
      | [] => .bad 0
      | c :: t' => if c.toNat = 34 ∨ c.toNat = 92 then (qS t').sh 2 [c] else if c.toNat = 110 then (qS t').sh 2 [10] else .bad 0
    else if b.toNat < 32 ∨ b.toNat = 127 then .bad 0
    else (qS t).sh 1 [b]
theorem qS_nil : qS [] = .stop := by unfold qS; rfl
theorem qS_cons (b : UInt8) (t : List UInt8) : qS (b :: t) = if b.toNat = 34 then (if t.head?.any (fun c => c.toNat != 32) then .bad 1 else .ok [] 1)
    else if b.toNat = 92 then
      match t with
      | [] => .bad 0
      | c :: t' => if c.toNat = 34 ∨ c.toNat = 92 then (qS t').sh 2 [c] else if c.toNat = 110 then (qS t').sh 2 [10] else .bad 0
    else if b.toNat < 32 ∨ b.toNat = 127 then .bad 0
    else (qS t).sh 1 [b] := by
  cases t <;> (conv => lhs; unfold qS)
theorem drop_cons {s : List UInt8} {i : Nat} (h : i < s.length) : s.drop i = s[i] :: s.drop (i + 1) := List.drop_eq_getElem_cons h
theorem u8_back (b : UInt8) : UInt8.ofNat ((b.toNat : Int).toNat) = b := by simp
theorem bytesOf_snoc (l : List Int) (b : UInt8) : bytesOf (l ++ [(b.toNat : Int)]) = bytesOf l ++ [b] := by simp [bytesOf]
theorem ib3 (b : UInt8) : g_strings_IndexByte [34, 92, 110] (b.toNat : Int) = some (if b.toNat = 34 then 0 else if b.toNat = 92 then 1 else if b.toNat = 110 then 2 else -1) := by
  have hb : (b.toNat : Int).toNat.toUInt8 = b := by simp
  have key : ∀ c : UInt8, (c == b) = decide (b.toNat = c.toNat) := by
    intro c
    by_cases h : b.toNat = c.toNat
    · have : c = b := UInt8.toNat_inj.1 h.symm
      simp [this]
    · have : c ≠ b := fun e => h (by rw [e])
      simp [this, h]
  simp only [g_strings_IndexByte, hb, Lib.indexByte, key]
  have h1 : (34 : UInt8).toNat = 34 := rfl
  have h2 : (92 : UInt8).toNat = 92 := rfl
  have h3 : (110 : UInt8).toNat = 110 := rfl
  simp only [h1, h2, h3]
  grind
def qfinL (acc : List Int) (i : Nat) : QR → ((List UInt8) × Int × Int) ⊕ Unit
  | .ok t n => .inl (bytesOf acc ++ t, ((i + n : Nat) : Int), -1)
  | .bad n => .inl ([], 0, ((i + n : Nat) : Int))
  | .stop => .inr ()
theorem qfinL_sh (acc : List Int) (i k : Nat) (x : Int) (b : UInt8) (hx : UInt8.ofNat x.toNat = b) (r : QR) : qfinL acc i (r.sh k [b]) = qfinL (acc ++ [x]) (i + k) r := by
  cases r <;> simp [qfinL, QR.sh, bytesOf, hx] <;> omega
theorem lines_quoted_loop (s : List UInt8) (hs : s.length ≤ 140737488355327) (h1 : 1 ≤ s.length) : iter (g_lines_quoted_s1 s) ([], 1) = some (qfinL [] 1 (qS (s.drop 1))) := by
  refine iter_of (fun x e => ∃ i : Nat, x.2 = (i : Int) ∧ 1 ≤ i ∧ i ≤ s.length ∧ x.1.length + 1 ≤ i ∧ e = qfinL x.1 i (qS (s.drop i))) (fun x => s.length - x.2.toNat) ?_ (x := ([], 1)) ⟨1, rfl, Nat.le_refl _, h1, by simp, rfl⟩ (by show s.length - _ < _; omega)
  rintro ⟨acc, z⟩ e ⟨i, hz, hi1, hi, ha, rfl⟩
  simp only at hz ha ⊢
  subst hz
  by_cases h : i < s.length
  · have w1 := wrap_i64 ((i : Int) + 1) (by omega) (by omega)
    have w2 := wrap_i64 ((i : Int) + 1 + 1) (by omega) (by omega)
    have hat := atI_nat h
    have hb := u8lt s[i]
    rw [drop_cons h]
    have hcnd : decide ((i : Int) < (s.length : Int)) = true := by simpa using h
    have hap : (acc.length + 1) * 1 ≤ 140737488355328 := by omega
    simp only [g_lines_quoted_s1, hcnd, if_true, hat, Option.bind_some, w1, w2, if_pos hap]
    generalize hB : s[i] = b at *
    by_cases c34 : b.toNat = 34
    · right
      have q : qS (b :: s.drop (i + 1)) = (if (s.drop (i + 1)).head?.any (fun c => c.toNat != 32) then .bad 1 else .ok [] 1) := by simp only [qS_cons, c34, if_true]
      have e1 : ((b.toNat : Int) == 34) = true := by simp [c34]
      rw [q]
      simp only [e1, if_true]
      by_cases h2 : i + 1 < s.length
      · have hat2 : atI s ((i : Int) + 1) = some s[i + 1] := by have := atI_nat h2; simpa using this
        have hcnd2 : decide ((i : Int) + 1 < (s.length : Int)) = true := by simp; omega
        rw [drop_cons h2]
        simp only [hcnd2, if_true, hat2, Option.bind_some, List.head?_cons, Option.any_some]
        by_cases c32 : s[i + 1].toNat = 32
        · simp [c32, qfinL]
        · have : ((s[i + 1].toNat : Int) != 32) = true := by simp; omega
          simp [c32, qfinL, this]
      · have hcnd2 : decide ((i : Int) + 1 < (s.length : Int)) = false := by simp; omega
        have : s.drop (i + 1) = [] := List.drop_eq_nil_of_le (by omega)
        simp only [hcnd2, Bool.false_eq_true, if_false, Option.bind_some, this]
        simp [qfinL]
    · have e1 : ((b.toNat : Int) == 34) = false := by simp; omega
      simp only [e1, Bool.false_eq_true, if_false]
      by_cases c92 : b.toNat = 92
      · have e2 : ((b.toNat : Int) == 92) = true := by simp [c92]
        simp only [e2, if_true]
        by_cases h2 : i + 1 < s.length
        · have hat2 : atI s ((i : Int) + 1) = some s[i + 1] := by have := atI_nat h2; simpa using this
          have e3 : (((i : Int) + 1) == (s.length : Int)) = false := by simp; omega
          have q : qS (b :: s.drop (i + 1)) = (if s[i + 1].toNat = 34 ∨ s[i + 1].toNat = 92 then (qS (s.drop (i + 2))).sh 2 [s[i + 1]] else if s[i + 1].toNat = 110 then (qS (s.drop (i + 2))).sh 2 [10] else .bad 0) := by
            rw [drop_cons h2]; simp only [qS_cons, c34, c92, if_true, if_false]; rfl
          rw [q]
          simp only [e3, Bool.false_eq_true, if_false, hat2, Option.bind_some, ib3]
          have hc := u8lt s[i + 1]
          generalize s[i + 1] = c at *
          by_cases d1 : c.toNat = 34 ∨ c.toNat = 92
          · left
            refine ⟨(acc ++ [(c.toNat : Int)], (i : Int) + 1 + 1), ?_, ⟨i + 2, by simp; omega, by omega, by omega, by simp; omega, ?_⟩, by simp; omega⟩
            · rcases d1 with d | d <;> simp [d]
            · rw [if_pos d1]
              exact qfinL_sh acc i 2 _ c (by simp) _
          · by_cases d2 : c.toNat = 110
            · left
              refine ⟨(acc ++ [10], (i : Int) + 1 + 1), ?_, ⟨i + 2, by simp; omega, by omega, by omega, by simp; omega, ?_⟩, by simp; omega⟩
              · simp [d2]
              · rw [if_neg d1, if_pos d2]
                exact qfinL_sh acc i 2 10 10 (by rfl) _
            · right
              rw [if_neg d1, if_neg d2]
              have d3 : ¬ c.toNat = 34 := fun h => d1 (.inl h)
              have d4 : ¬ c.toNat = 92 := fun h => d1 (.inr h)
              simp [d2, d3, d4, qfinL]
        · right
          have e3 : (((i : Int) + 1) == (s.length : Int)) = true := by simp; omega
          have : s.drop (i + 1) = [] := List.drop_eq_nil_of_le (by omega)
          simp [e3, this, qS_cons, c92, qfinL]
      · have e2 : ((b.toNat : Int) == 92) = false := by simp; omega
        simp only [e2, Bool.false_eq_true, if_false]
        by_cases cc : b.toNat < 32 ∨ b.toNat = 127
        · right
          have q : qS (b :: s.drop (i + 1)) = .bad 0 := by simp only [qS_cons, c34, c92, cc, if_true, if_false]
          rw [q]
          rcases cc with c | c
          · have : decide ((b.toNat : Int) < 32) = true := by simp; omega
            simp [this, qfinL]
          · simp [c, qfinL]
        · left
          have q : qS (b :: s.drop (i + 1)) = (qS (s.drop (i + 1))).sh 1 [b] := by simp only [qS_cons, c34, c92, cc, if_false]
          rw [q]
          have f1 : decide ((b.toNat : Int) < 32) = false := by simp; omega
          have f2 : ((b.toNat : Int) == 127) = false := by simp; omega
          refine ⟨(acc ++ [(b.toNat : Int)], (i : Int) + 1), ?_, ⟨i + 1, by simp, by omega, by omega, by simp; omega, ?_⟩, by simp; omega⟩
          · simp [f1, f2]
          · exact qfinL_sh acc i 1 _ b (by simp) _
  · right
    obtain rfl : i = s.length := by omega
    simp [g_lines_quoted_s1, qS_nil, qfinL]
def qres (k : Nat) (len : Nat) : QR → (List UInt8) × Int × Int
  | .ok t n => (t, ((k + n : Nat) : Int), -1)
  | .bad n => ([], 0, ((k + n : Nat) : Int))
  | .stop => ([], 0, (len : Int))
theorem lines_quoted_eq (s : List UInt8) (hs : s.length ≤ 140737488355327) (h1 : 1 ≤ s.length) : g_lines_quoted s = some (qres 1 s.length (qS (s.drop 1))) := by
  simp only [g_lines_quoted, lines_quoted_loop s hs h1, Option.bind_some]
  cases qS (s.drop 1) <;> simp [qfinL, qres, bytesOf]
def qfinR (acc : List UInt8) (i : Nat) : QR → ((List UInt8) × Int × Int) ⊕ Unit
  | .ok t n => .inl (acc ++ t, ((i + n : Nat) : Int), -1)
  | .bad n => .inl ([], 0, ((i + n : Nat) : Int))
  | .stop => .inr ()
theorem qfinR_sh (acc : List UInt8) (i k : Nat) (b : UInt8) (r : QR) : qfinR acc i (r.sh k [b]) = qfinR (acc ++ [b]) (i + k) r := by
  cases r <;> simp [qfinR, QR.sh] <;> omega
theorem sub1 {s : List UInt8} {i : Nat} (h : i < s.length) : subI s (i : Int) ((i : Int) + 1) = some [s[i]] := by
  unfold subI
  rw [if_pos (by omega)]
  have : ((i : Int) + 1).toNat - (i : Int).toNat = 1 := by omega
  rw [this, Int.toNat_natCast, drop_cons h, List.take_succ_cons, List.take_zero]
theorem ref_quoted_loop (s : List UInt8) (hs : s.length ≤ 9223372036854775805) (p : Nat) (hp : p < s.length) : iter (g_ref07_quoted_s1 s) (((p + 1 : Nat) : Int), []) = some (qfinR [] (p + 1) (qS (s.drop (p + 1)))) := by
  refine iter_of (fun x e => ∃ i : Nat, x.1 = (i : Int) ∧ i ≤ s.length ∧ x.2.length ≤ i ∧ e = qfinR x.2 i (qS (s.drop i))) (fun x => s.length - x.1.toNat) ?_ (x := (((p + 1 : Nat) : Int), [])) ⟨p + 1, rfl, by omega, by simp, rfl⟩ (by show s.length - _ < _; omega)
  rintro ⟨z, acc⟩ e ⟨i, hz, hi, ha, rfl⟩
  simp only at hz ha ⊢
  subst hz
  by_cases h : i < s.length
  · have w1 := wrap_i64 ((i : Int) + 1) (by omega) (by omega)
    have w2 := wrap_i64 ((i : Int) + 2) (by omega) (by omega)
    have hat := atI_nat h
    have hb := u8lt s[i]
    have hsub := sub1 h
    rw [drop_cons h]
    have hcnd : decide ((i : Int) < (s.length : Int)) = true := by simpa using h
    have hap : acc.length + 1 ≤ 9223372036854775807 := by omega
    simp only [g_ref07_quoted_s1, hcnd, if_true, hat, Option.bind_some, w1, w2, hsub, List.length_cons, List.length_nil, Nat.zero_add, if_pos hap]
    generalize hB : s[i] = b at *
    by_cases c34 : b.toNat = 34
    · right
      have q : qS (b :: s.drop (i + 1)) = (if (s.drop (i + 1)).head?.any (fun c => c.toNat != 32) then .bad 1 else .ok [] 1) := by simp only [qS_cons, c34, if_true]
      have e1 : ((b.toNat : Int) == 34) = true := by simp [c34]
      rw [q]
      simp only [e1, if_true]
      by_cases h2 : i + 1 < s.length
      · have hat2 : atI s ((i : Int) + 1) = some s[i + 1] := by have := atI_nat h2; simpa using this
        have hcnd2 : decide ((i : Int) + 1 < (s.length : Int)) = true := by simp; omega
        rw [drop_cons h2]
        simp only [hcnd2, if_true, hat2, Option.bind_some, List.head?_cons, Option.any_some]
        by_cases c32 : s[i + 1].toNat = 32
        · simp [c32, qfinR]
        · have : ((s[i + 1].toNat : Int) != 32) = true := by simp; omega
          simp [c32, qfinR, this]
      · have hcnd2 : decide ((i : Int) + 1 < (s.length : Int)) = false := by simp; omega
        have : s.drop (i + 1) = [] := List.drop_eq_nil_of_le (by omega)
        simp only [hcnd2, Bool.false_eq_true, if_false, Option.bind_some, this]
        simp [qfinR]
    · have e1 : ((b.toNat : Int) == 34) = false := by simp; omega
      simp only [e1, Bool.false_eq_true, if_false]
      by_cases cc : b.toNat < 32 ∨ b.toNat = 127
      · right
        have c92 : ¬ b.toNat = 92 := by omega
        have q : qS (b :: s.drop (i + 1)) = .bad 0 := by simp only [qS_cons, c34, c92, cc, if_true, if_false]
        rw [q]
        rcases cc with c | c
        · have : decide ((b.toNat : Int) < 32) = true := by simp; omega
          simp [this, qfinR]
        · simp [c, qfinR]
      · have f1 : decide ((b.toNat : Int) < 32) = false := by simp; omega
        have f2 : ((b.toNat : Int) == 127) = false := by simp; omega
        simp only [f1, f2, Bool.false_eq_true, if_false, Option.bind_some]
        by_cases c92 : b.toNat = 92
        · have e2 : ((b.toNat : Int) != 92) = false := by simp [c92]
          simp only [e2, Bool.false_eq_true, if_false]
          by_cases h2 : i + 1 < s.length
          · have hat2 : atI s ((i : Int) + 1) = some s[i + 1] := by have := atI_nat h2; simpa using this
            have hsub2 : subI s ((i : Int) + 1) ((i : Int) + 2) = some [s[i + 1]] := by
              have := sub1 h2
              have e : (((i + 1 : Nat) : Int)) = (i : Int) + 1 := by omega
              rw [e] at this
              rw [show (i : Int) + 2 = (i : Int) + 1 + 1 by omega]
              exact this
            have e3 : decide ((s.length : Int) ≤ (i : Int) + 1) = false := by simp; omega
            have q : qS (b :: s.drop (i + 1)) = (if s[i + 1].toNat = 34 ∨ s[i + 1].toNat = 92 then (qS (s.drop (i + 2))).sh 2 [s[i + 1]] else if s[i + 1].toNat = 110 then (qS (s.drop (i + 2))).sh 2 [10] else .bad 0) := by
              rw [drop_cons h2]; simp only [qS_cons, c34, c92, if_true, if_false]; rfl
            rw [q]
            simp only [e3, Bool.false_eq_true, if_false, hat2, Option.bind_some, hsub2, List.length_cons, List.length_nil, Nat.zero_add, if_pos hap]
            have hc := u8lt s[i + 1]
            generalize s[i + 1] = c at *
            by_cases d1 : c.toNat = 34 ∨ c.toNat = 92
            · left
              refine ⟨((i : Int) + 2, acc ++ [c]), ?_, ⟨i + 2, by simp, by omega, by simp; omega, ?_⟩, by simp; omega⟩
              · rcases d1 with d | d <;> simp [d]
              · rw [if_pos d1]
                exact qfinR_sh acc i 2 c _
            · by_cases d2 : c.toNat = 110
              · left
                refine ⟨((i : Int) + 2, acc ++ [10]), ?_, ⟨i + 2, by simp, by omega, by simp; omega, ?_⟩, by simp; omega⟩
                · simp [d2]
                · rw [if_neg d1, if_pos d2]
                  exact qfinR_sh acc i 2 10 _
              · right
                rw [if_neg d1, if_neg d2]
                have d3 : ¬ c.toNat = 34 := fun h => d1 (.inl h)
                have d4 : ¬ c.toNat = 92 := fun h => d1 (.inr h)
                have g1 : ((c.toNat : Int) == 34) = false := by simp; omega
                have g2 : ((c.toNat : Int) == 92) = false := by simp; omega
                have g3 : ((c.toNat : Int) == 110) = false := by simp; omega
                simp [g1, g2, g3, qfinR]
          · right
            have e3 : decide ((s.length : Int) ≤ (i : Int) + 1) = true := by simp; omega
            have : s.drop (i + 1) = [] := List.drop_eq_nil_of_le (by omega)
            simp [e3, this, qS_cons, c92, qfinR]
        · have e2 : ((b.toNat : Int) != 92) = true := by simp; omega
          left
          have q : qS (b :: s.drop (i + 1)) = (qS (s.drop (i + 1))).sh 1 [b] := by simp only [qS_cons, c34, c92, cc, if_false]
          rw [q]
          refine ⟨((i : Int) + 1, acc ++ [b]), ?_, ⟨i + 1, by simp, by omega, by simp; omega, ?_⟩, by simp; omega⟩
          · simp [e2]
          · exact qfinR_sh acc i 1 b _
  · right
    obtain rfl : i = s.length := by omega
    simp [g_ref07_quoted_s1, qS_nil, qfinR]
theorem ref_quoted_eq (s : List UInt8) (hs : s.length ≤ 9223372036854775805) (p : Nat) (hp : p < s.length) : g_ref07_quoted s (p : Int) = some (qres (p + 1) s.length (qS (s.drop (p + 1)))) := by
  have w1 := wrap_i64 ((p : Int) + 1) (by omega) (by omega)
  have := ref_quoted_loop s hs p hp
  have e : (((p + 1 : Nat)) : Int) = (p : Int) + 1 := by omega
  rw [e] at this
  simp only [g_ref07_quoted, w1, this, Option.bind_some]
  cases qS (s.drop (p + 1)) <;> simp [qfinR, qres]
end Go.Proofs.YtncmdhkmbmkiiaaDoor
