/- Regions are read from their texts, by both readers; what is read is the text: plain; no program in sight. -/
import Derived.Test.YtipdmcpmedmicaaDoorL10t
set_option linter.unusedSimpArgs false
set_option linter.unusedVariables false
namespace Go.Proofs.YtipdmcpmedmicaaDoor
set_option maxRecDepth 100000

/-- Field texts are no longer than what they stand in. -/
theorem qS_text : ∀ (t : List UInt8) (text : List UInt8) (n : Nat), qS t = .ok text n → text.length ≤ t.length
  | [], text, n, h => by simp [qS_nil] at h
  | [b], text, n, h => by
    rw [qS_cons] at h
    (repeat' split at h) <;> simp_all [QR.sh, qS_nil]
    all_goals (try (obtain ⟨rfl, _⟩ := h; simp))
  | b :: c :: t, text, n, h => by
    have h1 := qS_text (c :: t)
    have h2 := qS_text t
    rw [qS_cons] at h
    split at h
    · split at h
      · simp at h
      · simp at h; obtain ⟨rfl, _⟩ := h; simp
    · split at h
      · simp only at h
        split at h
        · cases hq : qS t <;> rw [hq] at h <;> simp [QR.sh] at h
          have := h2 _ _ hq; obtain ⟨rfl, _⟩ := h; simp; omega
        · split at h
          · cases hq : qS t <;> rw [hq] at h <;> simp [QR.sh] at h
            have := h2 _ _ hq; obtain ⟨rfl, _⟩ := h; simp; omega
          · simp at h
      · split at h
        · simp at h
        · cases hq : qS (c :: t) <;> rw [hq] at h <;> simp [QR.sh] at h
          have := h1 _ _ hq; obtain ⟨rfl, _⟩ := h; simp at this ⊢; omega
theorem fS_texts : ∀ (m : Nat) (t : List UInt8) (p : Nat) (l : List T_api_Field), t.length ≤ m → fS t p = .ok l → ∀ f ∈ l, f.Text.length ≤ t.length := by
  intro m
  induction m with
  | zero => intro t p l hm h; have : t = [] := List.eq_nil_of_length_eq_zero (by omega); subst this; rw [fS_nil] at h; injection h with h; subst h; simp
  | succ m ih =>
    intro t p l hm h
    cases t with
    | nil => rw [fS_nil] at h; injection h with h; subst h; simp
    | cons b t =>
      simp only [List.length_cons] at hm ⊢
      rw [fS_cons] at h
      split at h
      · intro f hf; have := ih t (p + 1) l (by omega) h f hf; omega
      · split at h
        · injection h with h; subst h; simp
        · split at h
          · cases hq : qS t with
            | ok text k =>
              rw [hq] at h
              simp only at h
              cases hr : fS (t.drop k) (p + 1 + k) with
              | bad x => rw [hr] at h; cases h
              | ok l' =>
                rw [hr] at h
                simp [FR.cons] at h
                subst h
                intro f hf
                rcases List.mem_cons.1 hf with rfl | hf
                · have := qS_text t text k hq; simp only; omega
                · have := ih (t.drop k) (p + 1 + k) l' (by simp; omega) hr f hf
                  rw [List.length_drop] at this; omega
            | bad k => rw [hq] at h; simp at h
            | stop => rw [hq] at h; simp at h
          · cases hq : wS (b :: t) with
            | inl k =>
              rw [hq] at h
              simp only at h
              cases hr : fS (t.drop (k - 1)) (p + k) with
              | bad x => rw [hr] at h; cases h
              | ok l' =>
                rw [hr] at h
                simp [FR.cons] at h
                subst h
                intro f hf
                rcases List.mem_cons.1 hf with rfl | hf
                · simp only [List.length_take, List.length_cons]; omega
                · have := ih (t.drop (k - 1)) (p + k) l' (by simp; omega) hr f hf
                  rw [List.length_drop] at this; omega
            | inr k => rw [hq] at h; simp at h
theorem lr_texts (n : Nat) (y : List UInt8) (l : T_api_Line) (h : lr n y = some (.inr l)) : ∀ f ∈ l.Fields, f.Text.length ≤ 1000 := by
  unfold lr at h
  split at h
  · cases h
  · cases hf : fS y 0 with
    | bad b => rw [hf] at h; cases h
    | ok fs =>
      rw [hf] at h
      cases fs with
      | nil => cases h
      | cons f fs =>
        injection h with h
        injection h with h
        subst h
        intro g hg
        have := fS_texts y.length y 0 (f :: fs) (Nat.le_refl _) hf g hg
        omega
theorem allR_texts : ∀ (r : List (List UInt8)) (n : Nat) (p : List T_api_Line × List T_api_Diag), (∀ x ∈ p.1, ∀ f ∈ x.Fields, f.Text.length ≤ 1000) → ∀ x ∈ (allR n r p).1, ∀ f ∈ x.Fields, f.Text.length ≤ 1000
  | [], n, p, h => h
  | y :: r, n, p, h => by
    refine allR_texts r (n + 1) (accL p (lr n y)) ?_
    cases hl : lr n y with
    | none => exact h
    | some q =>
      cases q with
      | inl d => exact h
      | inr l =>
        intro x hx
        simp only [accL, List.mem_append, List.mem_singleton] at hx
        rcases hx with hx | rfl
        · exact h x hx
        · exact lr_texts n y _ hl
theorem splitS_texts (src : List UInt8) : ∀ x ∈ (splitS src).1, ∀ f ∈ x.Fields, f.Text.length ≤ 1000 := by
  unfold splitS
  split
  · simp
  · exact allR_texts _ _ _ (by simp)

/-- A word of the text. -/
def plainW (w : List UInt8) : Prop := w ≠ [] ∧ (∀ b ∈ w, wB b = true) ∧ ∀ b ∈ w, b.toNat ≠ 35
theorem wB_facts {b : UInt8} (h : wB b = true) : 33 ≤ b.toNat ∧ b.toNat ≤ 126 ∧ b.toNat ≠ 34 := by
  simp [wB] at h; exact ⟨h.1.1, h.1.2, h.2⟩
theorem plain_no32 {w : List UInt8} (h : plainW w) : (32 : UInt8) ∉ w := fun hm => by have := (wB_facts (h.2.1 _ hm)).1; revert this; decide
theorem plain_no10 {w : List UInt8} (h : plainW w) : ∀ b ∈ w, b.toNat ≠ 10 := fun b hb => by have := (wB_facts (h.2.1 _ hb)).1; omega
theorem plain_nm {s : List UInt8} (h : isNm s = true) : plainW s := by
  have hl := (nm_len h).1
  obtain ⟨_, _, h3⟩ := (isNm_at s hl).1 h
  refine ⟨by intro e; subst e; simp at hl, fun b hb => ?_, fun b hb => ?_⟩
  · obtain ⟨i, hi, rfl⟩ := List.getElem_of_mem hb
    have := h3 i hi
    simp [nmB] at this
    simp [wB]; omega
  · obtain ⟨i, hi, rfl⟩ := List.getElem_of_mem hb
    have := h3 i hi
    simp [nmB] at this
    omega
theorem plain_itoa {n : Int} (h : 0 ≤ n) : plainW (Lib.itoa n) := by
  obtain ⟨u, rfl⟩ : ∃ u : Nat, n = u := ⟨n.toNat, by omega⟩
  rw [itoa_nat]
  obtain ⟨_, h2, b, t, h3, _⟩ := dec_facts u
  have hd : ∀ b ∈ Lib.decDigits u, 48 ≤ b.toNat ∧ b.toNat ≤ 57 := fun b hb => by
    have := List.all_eq_true.1 h2 b hb
    simpa [isDg] using this
  refine ⟨by rw [h3]; simp, fun b hb => ?_, fun b hb => ?_⟩
  · have := hd b hb; simp [wB]; omega
  · have := hd b hb; omega
theorem plain_al (a : Int) : plainW (alW a) := by
  unfold alW plainW
  split
  · decide
  · split <;> decide
theorem plain_an (b : Bool) : plainW (anW b) := by
  unfold anW plainW
  split <;> decide
theorem plain_wds {r : T_api_Region} (h : chk r = 0) : ∀ w ∈ wds r, plainW w := by
  obtain ⟨h1, h2, h3⟩ := chk_all h
  intro w hw
  simp only [wds, List.mem_cons, List.not_mem_nil, or_false] at hw
  rcases hw with rfl | rfl | rfl | rfl | rfl | rfl | rfl
  · exact plain_nm h1
  · exact plain_itoa (by omega)
  · exact plain_itoa (by omega)
  · exact plain_itoa (by omega)
  · exact plain_itoa (by omega)
  · exact plain_al _
  · exact plain_an _
theorem spB_txt {r : T_api_Region} (h : chk r = 0) : spB 32 (txt r) = wds r := spB_join 32 (wds r) (by simp [wds]) fun w hw => plain_no32 (plain_wds h w hw)
def zeroR : T_api_Region := ⟨[], 0, 0, 0, 0, 0, false⟩
theorem num032 {n : Int} (lo hi : Int) (h0 : 0 ≤ n) (h1 : n ≤ 100) (hl : lo ≤ n) (hh : n ≤ hi) : g_lines_Number (Lib.itoa n) lo hi = some (n, 0) := by
  have := itoa_small h0 h1
  rw [lines_Number_eq _ _ _ (by omega), numS_in n lo hi (by omega) (by omega) hl hh]
theorem rnum032 {n : Int} (lo hi : Int) (h0 : 0 ≤ n) (h1 : n ≤ 100) (hl : lo ≤ n) (hh : n ≤ hi) : g_ref07_Number (Lib.itoa n) lo hi = some (n, 0) := by
  have := itoa_small h0 h1
  rw [ref_Number_eq _ _ _ (by omega), numS_in n lo hi (by omega) (by omega) hl hh]
/-- The program reads a region from its text. -/
theorem region_back {r : T_api_Region} (h : chk r = 0) : g_region_Parse (txt r) = some (r, 0) := by
  obtain ⟨h1, h2, h3⟩ := chk_all h
  have hl := txt_len h
  unfold g_region_Parse
  rw [Split_eq _ _ (by omega), spB_txt h]
  simp only [Option.bind_some]
  rw [if_neg (by simp [wds])]
  have l1 : iter (g_region_Parse_s1 (wds r)) (0, 0, 0, 0, 0) = some (.inr (r.Top, r.Height, r.Left, r.Width)) := by
    refine iter_chain (fun i => ((i : Int), (if 0 < i then r.Top else 0), (if 1 < i then r.Height else 0), (if 2 < i then r.Left else 0), (if 3 < i then r.Width else 0))) 4 (by omega) ?_ ?_
    · intro i hi
      match i, hi with
      | 0, _ => simp [g_region_Parse_s1, wds, wr64, atI, num032 (n := r.Top) 0 32 (by omega) (by omega) (by omega) (by omega)]
      | 1, _ => simp [g_region_Parse_s1, wds, wr64, atI, num032 (n := r.Height) 0 32 (by omega) (by omega) (by omega) (by omega)]
      | 2, _ => simp [g_region_Parse_s1, wds, wr64, atI, num032 (n := r.Left) 0 32 (by omega) (by omega) (by omega) (by omega)]
      | 3, _ => simp [g_region_Parse_s1, wds, wr64, atI, num032 (n := r.Width) 0 32 (by omega) (by omega) (by omega) (by omega)]
    · simp [g_region_Parse_s1]
  have l2 : iter (g_region_Parse_s2 (wds r) [[76, 69, 70, 84], [67, 69, 78, 84, 69, 82], [82, 73, 71, 72, 84]]) (0, 0) = some r.Align := by
    have : r.Align = 1 ∨ r.Align = 2 ∨ r.Align = 3 := by omega
    have e0 : ((0, 0) : Int × Int) = (fun (i : Nat) => ((i : Int), (if r.Align ≤ (i : Int) then r.Align else 0))) 0 := by simp; omega
    rw [e0]
    refine iter_chain (fun (i : Nat) => ((i : Int), (if r.Align ≤ (i : Int) then r.Align else 0))) 3 (by omega) ?_ ?_
    · intro i hi
      rcases this with ha | ha | ha <;> match i, hi with
        | 0, _ => simp [g_region_Parse_s2, wds, atI, ha, alW] <;> first | rfl | (constructor <;> rfl)
        | 1, _ => simp [g_region_Parse_s2, wds, atI, ha, alW] <;> first | rfl | (constructor <;> rfl)
        | 2, _ => simp [g_region_Parse_s2, wds, atI, ha, alW] <;> first | rfl | (constructor <;> rfl)
    · rcases this with ha | ha | ha <;> simp [g_region_Parse_s2, ha]
  rw [l1]
  simp only [Option.bind_some]
  have a0 : atI (wds r) 0 = some r.Name := rfl
  have a6 : atI (wds r) 6 = some (anW r.Bottom) := rfl
  rw [a0, a6]
  simp only [Option.bind_some, g_region_aligns, l2]
  have hb : (anW r.Bottom == ([66, 79, 84, 84, 79, 77] : List UInt8)) = r.Bottom := by cases r.Bottom <;> rfl
  rw [hb, region_Text_eq]
  have e : T_api_Region.mk r.Name r.Top r.Height r.Left r.Width r.Align r.Bottom = r := rfl
  rw [e, if_pos h]
  simp
theorem spB_le (c : UInt8) : ∀ (s : List UInt8), ∀ w ∈ spB c s, w.length ≤ s.length
  | [], w, h => by simp [spB] at h; subst h; simp
  | b :: t, w, h => by
    have ih := spB_le c t
    simp only [spB] at h
    split at h
    · rcases List.mem_cons.1 h with rfl | h
      · simp
      · have := ih w h; simp; omega
    · split at h
      · rename_i e; exact absurd e (spB_ne c t)
      · rename_i v r e
        rcases List.mem_cons.1 h with rfl | h
        · have := ih v (by rw [e]; simp); simp; omega
        · have := ih w (by rw [e]; simp [h]); simp; omega
/-- What is read is the text of a region, or nothing. -/
def PRes (s : List UInt8) (res : T_api_Region × Int) : Prop := (res.2 = 0 ∧ chk res.1 = 0 ∧ txt res.1 = s) ∨ res = (zeroR, 4)
theorem PRes_text (s : List UInt8) (r : T_api_Region) : ∃ res, ((g_region_Text r).bind fun r302 => (if (r302.2 != 0) then (some (zeroR, (4 : Int))) else (if (r302.1 == s) then (some (r, 0)) else (some (zeroR, 4))))) = some res ∧ PRes s res := by
  rw [region_Text_eq]
  simp only [Option.bind_some]
  by_cases h : chk r = 0
  · rw [if_pos h]
    simp only [bne_self_eq_false, Bool.false_eq_true, if_false]
    by_cases h2 : txt r = s
    · rw [if_pos (by simpa using h2)]
      exact ⟨_, rfl, .inl ⟨rfl, h, h2⟩⟩
    · rw [if_neg (by simpa using h2)]
      exact ⟨_, rfl, .inr rfl⟩
  · rw [if_neg h, if_pos (by simpa using h)]
    exact ⟨_, rfl, .inr rfl⟩
theorem PRes_rtext (s : List UInt8) (r : T_api_Region) : ∃ res, ((g_ref10_Text r).bind fun r302 => (if (r302.2 != 0) then (some (zeroR, (4 : Int))) else (if (r302.1 == s) then (some (r, 0)) else (some (zeroR, 4))))) = some res ∧ PRes s res := by
  rw [ref10_Text_eq, ← region_Text_eq]; exact PRes_text s r
theorem region_total (s : List UInt8) (hs : s.length ≤ 1048576) : ∃ res, g_region_Parse s = some res ∧ PRes s res := by
  unfold g_region_Parse
  rw [Split_eq _ _ (by omega)]
  simp only [Option.bind_some]
  by_cases h7 : ((spB 32 s).length : Int) = 7
  · rw [if_neg (by simp [h7])]
    have hle := spB_le 32 s
    generalize spB 32 s = ws at *
    have h7' : ws.length = 7 := by omega
    have l1 : ∃ e, iter (g_region_Parse_s1 ws) (0, 0, 0, 0, 0) = some e ∧ True := by
      refine iter_post (fun x => 0 ≤ x.1 ∧ x.1 ≤ 4) (fun x => (4 - x.1).toNat) _ (by simp) (by simp) ?_
      rintro ⟨i, a, b, c, d⟩ ⟨hi0, hi4⟩
      simp only at hi0 hi4
      by_cases hi : i < 4
      · have hw := wrap_i64 (i + 1) (by omega) (by omega)
        have hat := atI_lt (l := ws) (n := i + 1) (by omega) (by omega)
        have hlen := hle _ (List.getElem_mem (l := ws) (n := (i + 1).toNat) (by omega))
        have hnum := lines_Number_eq (ws[(i + 1).toNat]'(by omega)) 0 32 (by omega)
        simp only [g_region_Parse_s1, hw, hat, Option.bind_some, hnum]
        rw [if_pos (by simpa using hi)]
        split
        · exact .inr ⟨_, rfl, trivial⟩
        · have : i = 0 ∨ i = 1 ∨ i = 2 ∨ i = 3 := by omega
          rcases this with rfl | rfl | rfl | rfl
          all_goals
            left
            refine ⟨_, rfl, ?_, ?_⟩
            · simp
            · simp
      · right
        simp only [g_region_Parse_s1]
        rw [if_neg (by simpa using hi)]
        exact ⟨_, rfl, trivial⟩
    obtain ⟨e, he, _⟩ := l1
    rw [he]
    simp only [Option.bind_some]
    cases e with
    | inl u => exact ⟨_, rfl, .inr rfl⟩
    | inr e =>
      have a0 := atI_lt (l := ws) (n := 0) (by omega) (by omega)
      have a6 := atI_lt (l := ws) (n := 6) (by omega) (by omega)
      have a5 := atI_lt (l := ws) (n := 5) (by omega) (by omega)
      simp only [a0, a6, Option.bind_some, g_region_aligns]
      have l2 : ∃ e, iter (g_region_Parse_s2 ws [[76, 69, 70, 84], [67, 69, 78, 84, 69, 82], [82, 73, 71, 72, 84]]) (0, 0) = some e ∧ True := by
        refine iter_post (fun x => 0 ≤ x.1 ∧ x.1 ≤ 3) (fun x => (3 - x.1).toNat) _ (by simp) (by simp) ?_
        rintro ⟨i, a⟩ ⟨hi0, hi4⟩
        simp only at hi0 hi4
        by_cases hi : i < 3
        · have hw := wrap_i64 (i + 1) (by omega) (by omega)
          have hat := atI_lt (l := ([[76, 69, 70, 84], [67, 69, 78, 84, 69, 82], [82, 73, 71, 72, 84]] : List (List UInt8))) (n := i) (by omega) (by simp; omega)
          simp only [g_region_Parse_s2, hat, Option.bind_some, a5, hw]
          rw [if_pos (by simpa using hi)]
          left
          split
          · exact ⟨_, rfl, by simp; omega, by simp; omega⟩
          · exact ⟨_, rfl, by simp; omega, by simp; omega⟩
        · right
          simp only [g_region_Parse_s2]
          rw [if_neg (by simpa using hi)]
          exact ⟨_, rfl, trivial⟩
      obtain ⟨a, ha, _⟩ := l2
      simp only [ha, Option.bind_some]
      exact PRes_text s _
  · rw [if_pos (by simpa using h7)]
    exact ⟨_, rfl, .inr rfl⟩
end Go.Proofs.YtipdmcpmedmicaaDoor
