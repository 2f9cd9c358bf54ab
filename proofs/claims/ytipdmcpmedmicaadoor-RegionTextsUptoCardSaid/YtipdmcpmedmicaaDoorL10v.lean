/- The reference reads a region from its text; the two readers agree: plain; no program in sight. -/
import Derived.Test.YtipdmcpmedmicaaDoorL10u
set_option linter.unusedSimpArgs false
set_option linter.unusedVariables false
namespace Go.Proofs.YtipdmcpmedmicaaDoor
set_option maxRecDepth 100000

/-- A word, and then nothing or a blank. -/
theorem wS_app : ∀ (w : List UInt8) (t : List UInt8), (∀ b ∈ w, wB b = true) → (t = [] ∨ t.head? = some 32) → wS (w ++ t) = .inl w.length
  | [], t, _, ht => by
    rcases ht with rfl | ht
    · rfl
    · cases t with
      | nil => simp at ht
      | cons b t => simp at ht; subst ht; simp [wS]
  | b :: w, t, hw, ht => by
    have hb := wB_facts (hw b (by simp))
    have ih := wS_app w t (fun x hx => hw x (by simp [hx])) ht
    simp only [List.cons_append, wS, ih, hw b (by simp), if_true, wSh, List.length_cons]
    rw [if_neg (by omega), Nat.add_comm]
/-- The fields of plain words. -/
def fldsOf : List (List UInt8) → Nat → List T_api_Field
  | [], _ => []
  | w :: ws, p => ⟨w, ((p + 1 : Nat) : Int), false⟩ :: fldsOf ws (p + w.length + 1)
theorem fS_words : ∀ (ws : List (List UInt8)) (p : Nat), (∀ w ∈ ws, plainW w) → fS (Lib.join ws [32]) p = .ok (fldsOf ws p)
  | [], p, _ => by simp [Lib.join_nil, fS_nil, fldsOf]
  | w :: ws, p, h => by
    obtain ⟨h1, h2, h3⟩ := h w (by simp)
    rw [Lib.join_cons]
    have ht : Lib.joinTail [32] ws = [] ∨ (Lib.joinTail [32] ws).head? = some 32 := by
      cases ws with
      | nil => left; rfl
      | cons v ws => right; simp [Lib.joinTail]
    have hw := wS_app w (Lib.joinTail [32] ws) h2 ht
    cases w with
    | nil => exact absurd rfl h1
    | cons b t =>
      have hb := wB_facts (h2 b (by simp))
      have hb3 := h3 b (by simp)
      rw [List.cons_append] at hw ⊢
      rw [fS_cons, if_neg (by omega), if_neg hb3, if_neg (by omega), hw]
      simp only [List.length_cons, Nat.add_sub_cancel]
      rw [List.drop_left]
      have hrest : fS (Lib.joinTail [32] ws) (p + (t.length + 1)) = .ok (fldsOf ws (p + (t.length + 1) + 1)) := by
        cases ws with
        | nil => simp [Lib.joinTail, fS_nil, fldsOf]
        | cons v ws =>
          have ih := fS_words (v :: ws) (p + (t.length + 1) + 1) (fun x hx => h x (List.mem_cons_of_mem _ hx))
          have e : Lib.joinTail [32] (v :: ws) = 32 :: Lib.join (v :: ws) [32] := by rw [Lib.join_cons]; simp [Lib.joinTail]
          rw [e, fS_cons, if_pos (by decide)]
          exact ih
      rw [hrest]
      simp only [FR.cons, fldsOf, List.length_cons]
      congr 2
      rw [← List.cons_append, show t.length + 1 = (b :: t).length from rfl, List.take_left]
theorem txt_no10 {r : T_api_Region} (h : chk r = 0) : ∀ b ∈ txt r, b.toNat ≠ 10 := by
  have hp := plain_wds h
  rw [txt_eq]
  have p1 := plain_no10 (hp r.Name (by simp [wds]))
  have p2 := plain_no10 (hp (Lib.itoa r.Top) (by simp [wds]))
  have p3 := plain_no10 (hp (Lib.itoa r.Height) (by simp [wds]))
  have p4 := plain_no10 (hp (Lib.itoa r.Left) (by simp [wds]))
  have p5 := plain_no10 (hp (Lib.itoa r.Width) (by simp [wds]))
  have p6 := plain_no10 (hp (alW r.Align) (by simp [wds]))
  have p7 := plain_no10 (hp (anW r.Bottom) (by simp [wds]))
  have b32 : ∀ b : UInt8, b = 32 → b.toNat ≠ 10 := by intro b hb; subst hb; decide
  intro b hb
  simp only [List.mem_append, List.mem_cons] at hb
  rcases hb with hb | hb | hb | hb | hb | hb | hb | hb | hb | hb | hb | hb | hb
  · exact p1 b hb
  · exact b32 b hb
  · exact p2 b hb
  · exact b32 b hb
  · exact p3 b hb
  · exact b32 b hb
  · exact p4 b hb
  · exact b32 b hb
  · exact p5 b hb
  · exact b32 b hb
  · exact p6 b hb
  · exact b32 b hb
  · exact p7 b hb
theorem splitS_txt {r : T_api_Region} (h : chk r = 0) : splitS (txt r) = ([⟨1, fldsOf (wds r) 0⟩], []) := by
  have hl := txt_len h
  unfold splitS
  rw [if_neg (by omega), spL_no _ (txt_no10 h)]
  have hf := fS_words (wds r) 0 (plain_wds h)
  have e : lr 0 (txt r) = some (.inr ⟨1, fldsOf (wds r) 0⟩) := by
    unfold lr
    rw [if_neg (by omega), show txt r = Lib.join (wds r) [32] from rfl, hf]
    simp [wds, fldsOf]
  simp [allR, e, accL]
/-- A scanner that stands in its line. -/
def SOK (s : T_captionerref07_Scanner) : Prop := 0 ≤ s.At ∧ s.At ≤ s.Line.Fields.length ∧ s.Line.Fields.length ≤ 1000 ∧ ∀ f ∈ s.Line.Fields, f.Text.length ≤ 1000
theorem fail_ok {s : T_captionerref07_Scanner} (h : SOK s) (e c : Int) : ∃ s', g_ref07_Scanner_fail s e c = some s' ∧ SOK s' := by
  unfold g_ref07_Scanner_fail
  split
  · exact ⟨_, rfl, h⟩
  · exact ⟨_, rfl, h⟩
theorem take_ok {s : T_captionerref07_Scanner} (h : SOK s) (q : Bool) : ∃ f b s', g_ref07_Scanner_take s q = some (f, b, s') ∧ SOK s' ∧ f.Text.length ≤ 1000 := by
  unfold g_ref07_Scanner_take
  split
  · exact ⟨_, _, _, rfl, h, by simp⟩
  · rename_i hc
    obtain ⟨h1, h2, h3, h4⟩ := h
    have hw := wrap_i64 ((s.Line.Fields.length : Int) - s.At) (by omega) (by omega)
    unfold g_ref07_Scanner_Left
    rw [if_neg hc, hw]
    simp only [Option.bind_some]
    split
    · obtain ⟨s', hs', hk⟩ := fail_ok (s := s) ⟨h1, h2, h3, h4⟩ 4 0
      rw [hs']
      exact ⟨_, _, _, rfl, hk, by simp⟩
    · rename_i hz
      have hz' : (s.Line.Fields.length : Int) - s.At ≠ 0 := by simpa using hz
      obtain ⟨y, hy, hm, _⟩ := atI_some (l := s.Line.Fields) (n := s.At) h1 (by omega)
      rw [hy]
      simp only [Option.bind_some]
      split
      · have hw2 := wrap_i64 (s.At + 1) (by omega) (by omega)
        rw [hw2]
        exact ⟨_, _, _, rfl, ⟨by simp; omega, by simp; omega, h3, h4⟩, h4 y hm⟩
      · obtain ⟨s', hs', hk⟩ := fail_ok (s := s) ⟨h1, h2, h3, h4⟩ 4 y.Column
        rw [hs']
        exact ⟨_, _, _, rfl, hk, by simp⟩
theorem sName_ok {s : T_captionerref07_Scanner} (h : SOK s) : ∃ w s', g_ref07_Scanner_Name s false = some (w, s') ∧ SOK s' := by
  obtain ⟨f, b, s1, h1, h2, h3⟩ := take_ok h false
  unfold g_ref07_Scanner_Name
  rw [h1]
  cases b with
  | false => exact ⟨_, _, rfl, h2⟩
  | true =>
    simp only [Option.bind_some, if_true, Bool.false_eq_true, if_false, ref07_Name_eq]
    split
    · exact ⟨_, _, rfl, h2⟩
    · obtain ⟨s', hs', hk⟩ := fail_ok h2 5 f.Column
      rw [hs']
      exact ⟨_, _, rfl, hk⟩
theorem sNumber_ok {s : T_captionerref07_Scanner} (h : SOK s) (lo hi : Int) : ∃ w s', g_ref07_Scanner_Number s lo hi = some (w, s') ∧ SOK s' := by
  obtain ⟨f, b, s1, h1, h2, h3⟩ := take_ok h false
  unfold g_ref07_Scanner_Number
  rw [h1]
  cases b with
  | false => exact ⟨_, _, rfl, h2⟩
  | true =>
    simp only [Option.bind_some, if_true, ref_Number_eq f.Text lo hi (by omega)]
    split
    · obtain ⟨s', hs', hk⟩ := fail_ok h2 (numS f.Text lo hi).2 f.Column
      rw [hs']
      exact ⟨_, _, rfl, hk⟩
    · exact ⟨_, _, rfl, h2⟩
theorem sChoice_ok {s : T_captionerref07_Scanner} (h : SOK s) (ws : List (List UInt8)) (hw : ws.length ≤ 1000) : ∃ w s', g_ref07_Scanner_Choice s ws = some (w, s') ∧ SOK s' := by
  obtain ⟨f, b, s1, h1, h2, h3⟩ := take_ok h false
  unfold g_ref07_Scanner_Choice
  rw [h1]
  cases b with
  | false => exact ⟨_, _, rfl, h2⟩
  | true =>
    simp only [Option.bind_some, if_true]
    obtain ⟨e, he⟩ := iter_ends (step := g_ref07_Scanner_Choice_s1 ws (f, true, s1)) ws.length (by omega) (fun i hi => by
      have hwr := wrap_i64 ((i : Int) + 1) (by omega) (by omega)
      simp only [g_ref07_Scanner_Choice_s1, atI_nat hi, Option.bind_some, hwr]
      rw [if_pos (by simpa using hi)]
      split
      · exact .inr ⟨_, rfl⟩
      · exact .inl rfl) ⟨.inr (), by simp [g_ref07_Scanner_Choice_s1]⟩
    rw [he]
    simp only [Option.bind_some]
    cases e with
    | inl i => exact ⟨_, _, rfl, h2⟩
    | inr u =>
      obtain ⟨s', hs', hk⟩ := fail_ok h2 4 f.Column
      simp only [hs', Option.bind_some]
      exact ⟨_, _, rfl, hk⟩
theorem Take_ok {s : T_captionerref07_Scanner} (h : SOK s) : ∃ r s', g_ref10_Take s = some (r, s') ∧ SOK s' := by
  obtain ⟨w0, s0, e0, k0⟩ := sName_ok h
  obtain ⟨w1, s1, e1, k1⟩ := sNumber_ok k0 0 31
  obtain ⟨w2, s2, e2, k2⟩ := sNumber_ok k1 1 32
  obtain ⟨w3, s3, e3, k3⟩ := sNumber_ok k2 0 31
  obtain ⟨w4, s4, e4, k4⟩ := sNumber_ok k3 1 32
  obtain ⟨w5, s5, e5, k5⟩ := sChoice_ok k4 [[76, 69, 70, 84], [67, 69, 78, 84, 69, 82], [82, 73, 71, 72, 84]] (by simp)
  obtain ⟨w6, s6, e6, k6⟩ := sChoice_ok k5 [[84, 79, 80], [66, 79, 84, 84, 79, 77]] (by simp)
  unfold g_ref10_Take
  simp only [e0, e1, e2, e3, e4, g_ref10_Aligns, e5, e6, Option.bind_some]
  exact ⟨_, _, rfl, k6⟩
theorem End_ok {s : T_captionerref07_Scanner} (h : SOK s) : ∃ d b s', g_ref07_Scanner_End s = some (d, b, s') := by
  unfold g_ref07_Scanner_End
  split
  · exact ⟨_, _, _, rfl⟩
  · rename_i hc
    obtain ⟨h1, h2, h3, h4⟩ := h
    have hw := wrap_i64 ((s.Line.Fields.length : Int) - s.At) (by omega) (by omega)
    unfold g_ref07_Scanner_Left
    rw [if_neg hc, hw]
    simp only [Option.bind_some]
    split
    · rename_i hz
      have hz' : 0 < (s.Line.Fields.length : Int) - s.At := by simpa using hz
      obtain ⟨y, hy, hm, _⟩ := atI_some (l := s.Line.Fields) (n := s.At) h1 (by omega)
      rw [hy]
      exact ⟨_, _, _, rfl⟩
    · exact ⟨_, _, _, rfl⟩
theorem ref_total (s : List UInt8) : ∃ res, g_ref10_Parse s = some res ∧ PRes s res := by
  unfold g_ref10_Parse
  rw [ref_Split_eq]
  have hsm := splitS_small s
  have htx := splitS_texts s
  generalize splitS s = p at *
  obtain ⟨l, d⟩ := p
  simp only [Option.bind_some] at *
  by_cases hd : (0 : Int) < d.length
  · simp only [hd, decide_true, if_true, Option.bind_some]
    exact ⟨_, rfl, .inr rfl⟩
  · simp only [hd, decide_false, Bool.false_eq_true, if_false, Option.bind_some]
    by_cases hl : (l.length : Int) = 1
    · rw [if_neg (by simp [hl])]
      match l, hl with
      | [x], _ =>
        have a0 : atI [x] 0 = some x := rfl
        simp only [a0, Option.bind_some, g_ref07_Scan]
        have hS : SOK ⟨x, 0, 0, 0⟩ := ⟨by simp, by simp, hsm.2.2 x (by simp), htx x (by simp)⟩
        obtain ⟨r, s', e1, k1⟩ := Take_ok hS
        obtain ⟨dd, b, s2, e2⟩ := End_ok k1
        simp only [e1, Option.bind_some, e2]
        cases b with
        | true => exact ⟨_, rfl, .inr rfl⟩
        | false =>
          simp only [Bool.false_eq_true, if_false]
          exact PRes_rtext s r
    · rw [if_pos (by simpa using hl)]
      exact ⟨_, rfl, .inr rfl⟩
end Go.Proofs.YtipdmcpmedmicaaDoor
