/- Layer 07, plain: LinesColumns answers true. -/
import Derived.Test.YtncmdhkmbmkiiaaDoorL07d
set_option linter.unusedSimpArgs false
set_option linter.unusedVariables false
namespace Go.Proofs.YtncmdhkmbmkiiaaDoor
set_option maxRecDepth 100000

/-- The places behind the line feeds. -/
def stS : List UInt8 → Nat → List Nat
  | [], _ => []
  | b :: t, i => if b.toNat = 10 then (i + 1) :: stS t (i + 1) else stS t (i + 1)
theorem stS_len : ∀ (t : List UInt8) (i : Nat), (stS t i).length + 1 = (spL t).length
  | [], i => rfl
  | b :: t, i => by
    have := stS_len t (i + 1)
    have h1 := spL_len t
    simp only [stS, spL]
    split
    · simp; omega
    · split
      · rename_i h; rw [h] at h1; simp at h1
      · rename_i h; rw [h] at this; simp at this ⊢; omega
theorem stS_line : ∀ (t : List UInt8) (i j : Nat) (y : List UInt8) (s : Nat), (spL t)[j]? = some y → (i :: stS t i)[j]? = some s → ∃ q, s = i + q ∧ q + y.length ≤ t.length ∧ (t.drop q).take y.length = y
  | [], i, j, y, s, hy, hs => by
    cases j with
    | zero => simp [spL] at hy hs; subst hy hs; exact ⟨0, by simp, by simp, by simp⟩
    | succ j => simp [spL] at hy
  | b :: t, i, j, y, s, hy, hs => by
    simp only [spL, stS] at hy hs
    by_cases hb : b.toNat = 10
    · rw [if_pos hb] at hy hs
      cases j with
      | zero => simp at hy hs; subst hy hs; exact ⟨0, by simp, by simp, by simp⟩
      | succ j =>
        simp only [List.getElem?_cons_succ] at hy hs
        obtain ⟨q, h1, h2, h3⟩ := stS_line t (i + 1) j y s hy hs
        exact ⟨q + 1, by omega, by simp; omega, by simpa using h3⟩
    · rw [if_neg hb] at hy hs
      cases hsp : spL t with
      | nil => have := spL_len t; rw [hsp] at this; simp at this
      | cons h r =>
        rw [hsp] at hy
        simp only at hy
        cases j with
        | zero =>
          simp at hy hs
          subst hy hs
          obtain ⟨q, h1, h2, h3⟩ := stS_line t (i + 1) 0 h (i + 1) (by rw [hsp]; rfl) rfl
          have : q = 0 := by omega
          subst this
          exact ⟨0, by simp, by simp at h2 ⊢; omega, by simpa using h3⟩
        | succ j =>
          simp only [List.getElem?_cons_succ] at hy hs
          obtain ⟨q, h1, h2, h3⟩ := stS_line t (i + 1) (j + 1) y s (by rw [hsp]; exact hy) (by simpa using hs)
          exact ⟨q + 1, by omega, by simp; omega, by simpa using h3⟩
theorem starts_loop (z : List UInt8) (hz : z.length ≤ 300) : iter (g_law07_LinesColumns_s1 z) (0, [0]) = some ((0 :: stS z 0).map fun (n : Nat) => (n : Int)) := by
  refine iter_of (fun x e => ∃ (i : Nat) (l : List Nat), x.1 = (i : Int) ∧ i ≤ z.length ∧ l.length ≤ i + 1 ∧ x.2 = l.map (fun (n : Nat) => (n : Int)) ∧ e = (l ++ stS (z.drop i) i).map (fun (n : Nat) => (n : Int))) (fun x => z.length - x.1.toNat) ?_ (x := (0, [0])) ⟨0, [0], rfl, by omega, by simp, rfl, rfl⟩ (by show z.length - _ < _; omega)
  rintro ⟨zi, l0⟩ e ⟨i, l, hi1, hi, hl, hl0, rfl⟩
  simp only at hi1 hl0 ⊢
  subst hi1 hl0
  by_cases h : i < z.length
  · left
    have w1 := wrap_i64 ((i : Int) + 1) (by omega) (by omega)
    have hcnd : decide ((i : Int) < (z.length : Int)) = true := by simpa using h
    have hap : ((l.map (fun (n : Nat) => (n : Int))).length + 1) * 8 ≤ 140737488355328 := by rw [List.length_map]; omega
    simp only [g_law07_LinesColumns_s1, hcnd, if_true, atI_nat h, Option.bind_some, w1, if_pos hap]
    rw [drop_cons h]
    simp only [stS]
    by_cases hb : z[i].toNat = 10
    · have e1 : ((z[i].toNat : Int) == 10) = true := by simp [hb]
      refine ⟨((i : Int) + 1, l.map (fun (n : Nat) => (n : Int)) ++ [(i : Int) + 1]), by simp [e1], ⟨i + 1, l ++ [i + 1], by simp, by omega, by simp; omega, by simp, ?_⟩, by simp; omega⟩
      rw [if_pos hb]; simp
    · have e1 : ((z[i].toNat : Int) == 10) = false := by simp; omega
      refine ⟨((i : Int) + 1, l.map (fun (n : Nat) => (n : Int))), by simp [e1], ⟨i + 1, l, by simp, by omega, by omega, rfl, ?_⟩, by simp; omega⟩
      rw [if_neg hb]
  · right
    obtain rfl : i = z.length := by omega
    simp [g_law07_LinesColumns_s1, stS]
/-- The lines with fields. -/
def linesF : Nat → List (List UInt8) → List T_api_Line
  | _, [] => []
  | n, y :: r => match lr n y with
    | some (.inr l) => l :: linesF (n + 1) r
    | _ => linesF (n + 1) r
theorem allR_linesF : ∀ (r : List (List UInt8)) (n : Nat) (p : List T_api_Line × List T_api_Diag), (allR n r p).1 = p.1 ++ linesF n r
  | [], n, p => by simp [allR, linesF]
  | y :: r, n, p => by
    simp only [allR, linesF]
    rw [allR_linesF r]
    rcases lr n y with _ | d | l <;> simp [accL]
/-- Lines come in order, each out of its text. -/
def LOk (r : List (List UInt8)) : Nat → List T_api_Line → Prop
  | _, [] => True
  | prev, x :: l => ∃ m : Nat, x.Number = ((m + 1 : Nat) : Int) ∧ prev ≤ m ∧ (∃ y, r[m]? = some y ∧ y.length ≤ 1000 ∧ fS y 0 = .ok x.Fields) ∧ x.Fields ≠ [] ∧ LOk r (m + 1) l
theorem LOk_mono (r : List (List UInt8)) (a b : Nat) (hab : a ≤ b) (l : List T_api_Line) (h : LOk r b l) : LOk r a l := by
  cases l with
  | nil => trivial
  | cons x l => obtain ⟨m, h1, h2, h3⟩ := h; exact ⟨m, h1, by omega, h3⟩
theorem linesF_ok (full : List (List UInt8)) : ∀ (r : List (List UInt8)) (n : Nat), (∀ i, r[i]? = full[n + i]?) → LOk full n (linesF n r)
  | [], n, _ => trivial
  | y :: r, n, h => by
    have ih := linesF_ok full r (n + 1) (fun i => by have := h (i + 1); simp only [List.getElem?_cons_succ] at this; rw [this]; congr 1; omega)
    have h0 := h 0
    simp only [List.getElem?_cons_zero, Nat.add_zero] at h0
    simp only [linesF]
    cases hl : lr n y with
    | none => exact LOk_mono full n (n + 1) (by omega) _ ih
    | some q =>
      cases q with
      | inl d => exact LOk_mono full n (n + 1) (by omega) _ ih
      | inr l =>
        unfold lr at hl
        split at hl
        · cases hl
        · rename_i hlen
          cases hf : fS y 0 with
          | bad b => rw [hf] at hl; cases hl
          | ok fs =>
            rw [hf] at hl
            cases fs with
            | nil => cases hl
            | cons f fs =>
              injection hl with hl
              injection hl with hl
              subst hl
              exact ⟨n, rfl, Nat.le_refl _, ⟨y, h0.symm, by omega, hf⟩, by simp, ih⟩
/-- The closing quote. -/
theorem close_loop (z : List UInt8) (hz : z.length ≤ 300) (st : Nat) (y : List UInt8) (hy : st + y.length ≤ z.length) (hyz : ∀ (k : Nat) (h : k < y.length), y[k] = z[st + k]'(by omega)) (p : Nat) (hp : p ≤ y.length) (text : List UInt8) (n : Nat) (hq : qS (y.drop p) = .ok text n) :
    iter (g_law07_LinesColumns_s5 z) ((st + p : Nat) : Int) = some ((st + p + n - 1 : Nat) : Int) := by
  refine iter_of (fun x e => ∃ (p : Nat) (text : List UInt8) (n : Nat), x = ((st + p : Nat) : Int) ∧ p ≤ y.length ∧ qS (y.drop p) = .ok text n ∧ e = ((st + p + n - 1 : Nat) : Int)) (fun x => z.length + 1 - x.toNat) ?_ (x := ((st + p : Nat) : Int)) ⟨p, text, n, rfl, hp, hq, rfl⟩ (by show z.length + 1 - _ < _; omega)
  rintro x e ⟨p, text, n, rfl, hp, hq, rfl⟩
  have hle := (qS_le (y.drop p)).1 text n hq
  rw [List.length_drop] at hle
  have hpl : p < y.length := by omega
  have hat : atI z ((st + p : Nat) : Int) = some y[p] := by rw [atI_nat (by omega), hyz p hpl]
  rw [drop_cons hpl, qS_cons] at hq
  have hb := u8lt y[p]
  simp only [g_law07_LinesColumns_s5, hat, Option.bind_some]
  by_cases c34 : y[p].toNat = 34
  · right
    rw [if_pos c34] at hq
    split at hq
    · cases hq
    · injection hq with h1 h2
      subst h2
      have e1 : ((y[p].toNat : Int) != 34) = false := by simp [c34]
      simp only [e1, Bool.false_eq_true, if_false]
      simp
  · left
    have e1 : ((y[p].toNat : Int) != 34) = true := by simp; omega
    rw [if_neg c34] at hq
    simp only [e1, if_true]
    by_cases c92 : y[p].toNat = 92
    · rw [if_pos c92] at hq
      have e2 : ((y[p].toNat : Int) == 92) = true := by simp [c92]
      have w1 := wrap_i64 (((st + p : Nat) : Int) + 1) (by omega) (by omega)
      have w2 := wrap_i64 (((st + p : Nat) : Int) + 1 + 1) (by omega) (by omega)
      cases hd : y.drop (p + 1) with
      | nil => rw [hd] at hq; cases hq
      | cons c t' =>
        rw [hd] at hq
        simp only at hq
        have hp1 : p + 1 < y.length := by
          rcases Nat.lt_or_ge (p + 1) y.length with h | h
          · exact h
          · rw [List.drop_eq_nil_of_le h] at hd; cases hd
        have ht' : t' = y.drop (p + 2) := by
          rw [drop_cons hp1] at hd; injection hd with _ h; exact h.symm
        have : ∃ text' n', qS (y.drop (p + 2)) = .ok text' n' ∧ n = 2 + n' := by
          rw [← ht']
          split at hq
          · cases hqq : qS t' <;> rw [hqq] at hq <;> simp [QR.sh] at hq
            exact ⟨_, _, rfl, by omega⟩
          · split at hq
            · cases hqq : qS t' <;> rw [hqq] at hq <;> simp [QR.sh] at hq
              exact ⟨_, _, rfl, by omega⟩
            · cases hq
        obtain ⟨text', n', hq', hn⟩ := this
        refine ⟨((st + p : Nat) : Int) + 1 + 1, by simp only [e2, if_true, w1, w2], ⟨p + 2, text', n', by omega, by omega, hq', by omega⟩, by omega⟩
    · rw [if_neg c92] at hq
      have e2 : ((y[p].toNat : Int) == 92) = false := by simp; omega
      have w1 := wrap_i64 (((st + p : Nat) : Int) + 1) (by omega) (by omega)
      split at hq
      · cases hq
      · cases hqq : qS (y.drop (p + 1)) <;> rw [hqq] at hq <;> simp [QR.sh] at hq
        rename_i text' n'
        refine ⟨((st + p : Nat) : Int) + 1, by simp only [e2, Bool.false_eq_true, if_false, w1], ⟨p + 1, text', n', by omega, by omega, hqq, by omega⟩, by omega⟩
/-- Fields stand where they say. -/
def FOk (z : List UInt8) (st : Nat) : Nat → List T_api_Field → Prop
  | _, [] => True
  | e, f :: l => ∃ c : Nat, f.Column = ((c + 1 : Nat) : Int) ∧ e ≤ st + c ∧ st + c < z.length ∧ (∀ (k : Nat) (h : k < z.length), e ≤ k → k < st + c → z[k].toNat = 32) ∧
      (if f.Quoted then (∃ h : st + c < z.length, z[st + c].toNat = 34) ∧ ∃ e' : Nat, e' < z.length ∧ iter (g_law07_LinesColumns_s5 z) ((st + c + 1 : Nat) : Int) = some (e' : Int) ∧ FOk z st (e' + 1) l
       else st + c + f.Text.length ≤ z.length ∧ (z.drop (st + c)).take f.Text.length = f.Text ∧ FOk z st (st + c + f.Text.length) l)
theorem FOk_blank (z : List UInt8) (st e : Nat) (he : e < z.length) (hb : z[e].toNat = 32) (l : List T_api_Field) (h : FOk z st (e + 1) l) : FOk z st e l := by
  cases l with
  | nil => trivial
  | cons f l =>
    obtain ⟨c, h1, h2, h3, h4, h5⟩ := h
    refine ⟨c, h1, by omega, h3, fun k hk h6 h7 => ?_, h5⟩
    by_cases hke : k = e
    · subst hke; exact hb
    · exact h4 k hk (by omega) h7
theorem fS_FOk (z : List UInt8) (hz : z.length ≤ 300) (st : Nat) (y : List UInt8) (hy : st + y.length ≤ z.length) (hyz : ∀ (k : Nat) (h : k < y.length), y[k] = z[st + k]'(by omega)) : ∀ (m p : Nat) (l : List T_api_Field), y.length - p ≤ m → p ≤ y.length → fS (y.drop p) p = .ok l → FOk z st (st + p) l := by
  intro m
  induction m with
  | zero =>
    intro p l hm hp h
    have : y.drop p = [] := List.drop_eq_nil_of_le (by omega)
    rw [this, fS_nil] at h
    injection h with h
    subst h; trivial
  | succ m ih =>
    intro p l hm hp h
    by_cases hpl : p < y.length
    · have hdc := drop_cons hpl
      rw [hdc, fS_cons] at h
      split at h
      · rename_i h32
        have := ih (p + 1) l (by omega) (by omega) h
        exact FOk_blank z st (st + p) (by omega) (by rw [← hyz p hpl]; exact h32) l this
      · rename_i h32
        split at h
        · injection h with h; subst h; trivial
        · split at h
          · rename_i h34
            cases hq : qS (y.drop (p + 1)) with
            | bad k => rw [hq] at h; cases h
            | stop => rw [hq] at h; cases h
            | ok text k =>
              rw [hq] at h
              simp only at h
              have hle := (qS_le (y.drop (p + 1))).1 text k hq
              rw [List.length_drop] at hle
              rw [List.drop_drop] at h
              cases hr : fS (y.drop (p + 1 + k)) (p + 1 + k) with
              | bad x => rw [hr] at h; cases h
              | ok l' =>
                rw [hr] at h
                simp only [FR.cons] at h
                injection h with h
                subst h
                have hcl := close_loop z hz st y hy hyz (p + 1) (by omega) text k hq
                refine ⟨p, rfl, by omega, by omega, fun q _ h1 h2 => by omega, ?_⟩
                rw [if_pos rfl]
                refine ⟨⟨by omega, by rw [← hyz p hpl]; exact h34⟩, st + p + k, by omega, ?_, ?_⟩
                · rw [show st + p + 1 = st + (p + 1) by omega, hcl]
                  congr 2; omega
                · have := ih (p + 1 + k) l' (by omega) (by omega) hr
                  rw [show st + p + k + 1 = st + (p + 1 + k) by omega]
                  exact this
          · rw [← hdc] at h
            cases hq : wS (y.drop p) with
            | inr k => rw [hq] at h; cases h
            | inl k =>
              rw [hq] at h
              simp only at h
              have hk := wS_le _ k hq
              have hk1 := wS_pos (by rw [hdc] at hq; exact hq) h32
              rw [List.length_drop] at hk
              rw [List.drop_drop, show p + 1 + (k - 1) = p + k by omega] at h
              cases hr : fS (y.drop (p + k)) (p + k) with
              | bad x => rw [hr] at h; cases h
              | ok l' =>
                rw [hr] at h
                simp only [FR.cons] at h
                injection h with h
                subst h
                have hlen : ((y.drop p).take k).length = k := by rw [List.length_take, List.length_drop]; omega
                refine ⟨p, rfl, by omega, by omega, fun q _ h1 h2 => by omega, ?_⟩
                rw [if_neg (by simp)]
                simp only [hlen]
                refine ⟨by omega, ?_, ?_⟩
                · apply List.ext_getElem?
                  intro q
                  rw [List.getElem?_take, List.getElem?_take]
                  split
                  · rename_i hqk
                    rw [List.getElem?_drop, List.getElem?_drop, List.getElem?_eq_getElem (by omega), List.getElem?_eq_getElem (by omega : p + q < y.length), hyz (p + q) (by omega)]
                    congr 2; omega
                  · rfl
                · have := ih (p + k) l' (by omega) (by omega) hr
                  rw [show st + p + k = st + (p + k) by omega]
                  exact this
    · have : y.drop p = [] := List.drop_eq_nil_of_le (by omega)
      rw [this, fS_nil] at h
      injection h with h
      subst h; trivial
theorem blanks_loop (z : List UInt8) (hz : z.length ≤ 300) (st c : Nat) (f : T_api_Field) (hf : f.Column = ((c + 1 : Nat) : Int)) (hc : st + c < z.length) (e : Nat) (he : e ≤ st + c) (hb : ∀ (k : Nat) (h : k < z.length), e ≤ k → k < st + c → z[k].toNat = 32) : iter (g_law07_LinesColumns_s4 z (st : Int) f) (e : Int) = some (.inr ()) := by
  have w1 : IntKind.i64.wrap (IntKind.i64.wrap ((st : Int) + f.Column) - 1) = ((st + c : Nat) : Int) := by
    rw [hf, wrap_i64 ((st : Int) + ((c + 1 : Nat) : Int)) (by omega) (by omega), wrap_i64 _ (by omega) (by omega)]; omega
  refine iter_of (fun x r => ∃ k : Nat, x = (k : Int) ∧ e ≤ k ∧ k ≤ st + c ∧ r = .inr ()) (fun x => z.length - x.toNat) ?_ (x := (e : Int)) ⟨e, rfl, Nat.le_refl _, he, rfl⟩ (by show z.length - _ < _; omega)
  rintro x r ⟨k, rfl, h1, h2, rfl⟩
  by_cases h : k < st + c
  · left
    have w2 := wrap_i64 ((k : Int) + 1) (by omega) (by omega)
    have e1 : decide ((k : Int) < ((st + c : Nat) : Int)) = true := by simp only [decide_eq_true_eq]; omega
    have h32 := hb k (by omega) h1 h
    have e2 : ((z[k].toNat : Int) != 32) = false := by simp [h32]
    exact ⟨(k : Int) + 1, by simp only [g_law07_LinesColumns_s4, w1, e1, if_true, atI_nat (show k < z.length by omega), Option.bind_some, e2, Bool.false_eq_true, if_false, w2], ⟨k + 1, by omega, by omega, by omega, rfl⟩, by omega⟩
  · right
    have e1 : decide ((k : Int) < ((st + c : Nat) : Int)) = false := by simp only [decide_eq_false_iff_not]; omega
    simp only [g_law07_LinesColumns_s4, w1, e1, Bool.false_eq_true, if_false]
theorem fields_loop (z : List UInt8) (hz : z.length ≤ 300) (st : Nat) (hst : st ≤ z.length) (x : T_api_Line) (hx : x.Fields.length ≤ 1000) (hF : FOk z st st x.Fields) : iter (g_law07_LinesColumns_s3 z x (st : Int)) ((st : Int), 0) = some (.inr ()) := by
  refine iter_of (fun s r => ∃ (e i : Nat), s = ((e : Int), (i : Int)) ∧ i ≤ x.Fields.length ∧ e ≤ z.length ∧ FOk z st e (x.Fields.drop i) ∧ r = .inr ()) (fun s => x.Fields.length - s.2.toNat) ?_ (x := ((st : Int), 0)) ⟨st, 0, rfl, by omega, hst, by simpa using hF, rfl⟩ (by show x.Fields.length - _ < _; omega)
  rintro s r ⟨e, i, rfl, hi, hez, hFe, rfl⟩
  by_cases h : i < x.Fields.length
  · left
    rw [List.drop_eq_getElem_cons h] at hFe
    obtain ⟨c, h1, h2, h3, h4, h5⟩ := hFe
    have hcnd : decide ((i : Int) < (x.Fields.length : Int)) = true := by simpa using h
    have hat := atI_nat h
    generalize hf : x.Fields[i] = f at *
    have wA : IntKind.i64.wrap (IntKind.i64.wrap ((st : Int) + f.Column) - 1) = ((st + c : Nat) : Int) := by
      rw [h1, wrap_i64 ((st : Int) + ((c + 1 : Nat) : Int)) (by omega) (by omega), wrap_i64 _ (by omega) (by omega)]; omega
    have wI := wrap_i64 ((i : Int) + 1) (by omega) (by omega)
    have hbl := blanks_loop z hz st c f h1 h3 e h2 h4
    have g1 : decide (((st + c : Nat) : Int) < (e : Int)) = false := by simp only [decide_eq_false_iff_not]; omega
    cases hq : f.Quoted with
    | true =>
      rw [hq, if_pos rfl] at h5
      obtain ⟨⟨_, h34⟩, e', he', hs5, hF'⟩ := h5
      have g2 : decide ((z.length : Int) ≤ ((st + c : Nat) : Int)) = false := by simp only [decide_eq_false_iff_not]; omega
      have g3 : ((z[st + c].toNat : Int) != 34) = false := by simp [h34]
      have w1 := wrap_i64 (((st + c : Nat) : Int) + 1) (by omega) (by omega)
      have w2 := wrap_i64 ((e' : Int) + 1) (by omega) (by omega)
      have hs5' : iter (g_law07_LinesColumns_s5 z) (((st + c : Nat) : Int) + 1) = some (e' : Int) := by
        rw [← hs5]; congr 1
      refine ⟨((e' : Int) + 1, (i : Int) + 1), ?_, ⟨e' + 1, i + 1, by simp, by omega, by omega, hF', rfl⟩, by simp; omega⟩
      simp only [g_law07_LinesColumns_s3, hcnd, if_true, hat, Option.bind_some, wA, g1, Bool.false_eq_true, if_false, hq, g2, atI_nat h3, g3, hbl, w1, hs5', w2, wI]
    | false =>
      rw [hq, if_neg (by simp)] at h5
      obtain ⟨h6, h7, hF'⟩ := h5
      have w1 := wrap_i64 (((st + c : Nat) : Int) + (f.Text.length : Int)) (by omega) (by omega)
      have g2 : decide ((z.length : Int) < ((st + c : Nat) : Int) + (f.Text.length : Int)) = false := by simp only [decide_eq_false_iff_not]; omega
      have hsub : subI z ((st + c : Nat) : Int) (((st + c : Nat) : Int) + (f.Text.length : Int)) = some f.Text := by
        have := subI_nat (s := z) (i := st + c) (j := st + c + f.Text.length) (by omega) h6
        rw [show st + c + f.Text.length - (st + c) = f.Text.length by omega, h7] at this
        rw [show ((st + c : Nat) : Int) + (f.Text.length : Int) = ((st + c + f.Text.length : Nat) : Int) by omega]
        exact this
      refine ⟨(((st + c : Nat) : Int) + (f.Text.length : Int), (i : Int) + 1), ?_, ⟨st + c + f.Text.length, i + 1, by simp, by omega, by omega, hF', rfl⟩, by simp; omega⟩
      simp only [g_law07_LinesColumns_s3, hcnd, if_true, hat, Option.bind_some, wA, g1, Bool.false_eq_true, if_false, hq, hbl, w1, g2, hsub, wI, beq_self_eq_true]
  · right
    obtain rfl : i = x.Fields.length := by omega
    simp [g_law07_LinesColumns_s3]
theorem lines_loop (z : List UInt8) (hz : z.length ≤ 300) (r : (List T_api_Line) × (List T_api_Diag)) (hr : r.1 = linesF 0 (spL z)) (hrl : r.1.length ≤ 262145) : iter (g_law07_LinesColumns_s2 z r ((0 :: stS z 0).map fun (n : Nat) => (n : Int))) (0, 0) = some (.inr ()) := by
  have hok : LOk (spL z) 0 r.1 := by rw [hr]; exact linesF_ok (spL z) (spL z) 0 (fun i => by rw [Nat.zero_add])
  have hsl := spL_len z
  have hstl := stS_len z 0
  refine iter_of (fun s q => ∃ (m i : Nat), s = ((m : Int), (i : Int)) ∧ i ≤ r.1.length ∧ LOk (spL z) m (r.1.drop i) ∧ q = .inr ()) (fun s => r.1.length - s.2.toNat) ?_ (x := (0, 0)) ⟨0, 0, rfl, by omega, by simpa using hok, rfl⟩ (by show r.1.length - _ < _; omega)
  rintro s q ⟨m, i, rfl, hi, hL, rfl⟩
  by_cases h : i < r.1.length
  · left
    rw [List.drop_eq_getElem_cons h] at hL
    obtain ⟨k, h1, h2, ⟨y, hy, hyl, hfs⟩, hne, hL'⟩ := hL
    have hat := atI_nat h
    have hcnd : decide ((i : Int) < (r.1.length : Int)) = true := by simpa using h
    generalize hx : r.1[i] = x at *
    have hk : k < (spL z).length := (List.getElem?_eq_some_iff.1 hy).1
    have hks : k < (0 :: stS z 0).length := by simp only [List.length_cons]; omega
    obtain ⟨qq, hq1, hq2, hq3⟩ := stS_line z 0 k y _ hy (List.getElem?_eq_getElem hks)
    have hyz : ∀ (j : Nat) (hj : j < y.length), y[j] = z[qq + j]'(by omega) := by
      intro j hj
      have : y[j]? = z[qq + j]? := by
        conv => lhs; rw [← hq3]
        rw [List.getElem?_take, if_pos hj, List.getElem?_drop]
      rw [List.getElem?_eq_getElem hj, List.getElem?_eq_getElem (by omega)] at this
      exact Option.some.inj this
    have hF : FOk z qq qq x.Fields := by
      have := fS_FOk z hz qq y (by omega) hyz y.length 0 x.Fields (by omega) (by omega) (by simpa using hfs)
      simpa using this
    have hfl := fS_ok_len y.length y 0 x.Fields (Nat.le_refl _) hfs
    have hloop := fields_loop z hz qq (by omega) x (by omega) hF
    have hstart : atI ((0 :: stS z 0).map fun (n : Nat) => (n : Int)) (k : Int) = some (qq : Int) := by
      rw [atI_nat (by rw [List.length_map]; exact hks), List.getElem_map, hq1]
      simp
    have w1 : IntKind.i64.wrap (x.Number - 1) = (k : Int) := by rw [h1, wrap_i64 _ (by omega) (by omega)]; omega
    have wI := wrap_i64 ((i : Int) + 1) (by omega) (by omega)
    have g1 : decide (x.Number ≤ (m : Int)) = false := by rw [h1]; simp only [decide_eq_false_iff_not]; omega
    have g2 : decide (((((0 :: stS z 0).map fun (n : Nat) => (n : Int)).length : Nat) : Int) < x.Number) = false := by rw [h1, List.length_map]; simp only [decide_eq_false_iff_not, List.length_cons]; omega
    have g3 : ((x.Fields.length : Int) == 0) = false := by
      cases hxf : x.Fields with
      | nil => exact absurd hxf hne
      | cons a b => simp; omega
    refine ⟨(x.Number, (i : Int) + 1), ?_, ⟨k + 1, i + 1, by rw [h1]; simp, by omega, hL', rfl⟩, by simp; omega⟩
    simp only [g_law07_LinesColumns_s2, hcnd, if_true, hat, Option.bind_some, g1, g2, g3, Bool.false_eq_true, if_false, w1, hstart, hloop, wI]
  · right
    obtain rfl : i = r.1.length := by omega
    simp [g_law07_LinesColumns_s2]
theorem LinesColumns_true (src : List UInt8) : g_law07_LinesColumns src = some true := by
  have hsub : subH src (if 300 < (src.length : Int) then 300 else (src.length : Int)) = some (src.take 300) := by
    unfold subH
    by_cases h5 : 300 < (src.length : Int)
    · rw [if_pos h5, if_pos (by constructor <;> omega)]; rfl
    · rw [if_neg h5, if_pos (by constructor <;> omega)]
      rw [List.drop_zero, Int.toNat_natCast, Nat.sub_zero, List.take_of_length_le (Nat.le_refl _), List.take_of_length_le (by omega)]
  have hz : (src.take 300).length ≤ 300 := by rw [List.length_take]; omega
  generalize src.take 300 = z at *
  have hr : (splitS z).1 = linesF 0 (spL z) := by
    unfold splitS
    rw [if_neg (by omega)]
    simp only [allR_linesF, List.nil_append]
  have hl := (splitS_small z).1
  simp only [g_law07_LinesColumns, awake07, Option.bind_some, if_true, hsub, lines_Split_eq, starts_loop z hz, lines_loop z hz (splitS z) hr hl]
end Go.Proofs.YtncmdhkmbmkiiaaDoor
