/- Layer 07, plain: LinesSplits answers true. -/
import Derived.Test.YtncmdhkmbmkiiaaDoorL07c
import Derived.Test.YtncmdhkmbmkiiaaDoorGF
set_option linter.unusedSimpArgs false
set_option linter.unusedVariables false
namespace Go.Proofs.YtncmdhkmbmkiiaaDoor
set_option maxRecDepth 100000

theorem awake07 : g_law07_awake = some true := by decide +kernel
theorem fS_ok_len : ∀ (m : Nat) (t : List UInt8) (p : Nat) (l : List T_api_Field), t.length ≤ m → fS t p = .ok l → l.length ≤ t.length := by
  intro m
  induction m with
  | zero => intro t p l hm h; have : t = [] := List.eq_nil_of_length_eq_zero (by omega); subst this; rw [fS_nil] at h; injection h with h; subst h; simp
  | succ m ih =>
    intro t p l hm h
    cases t with
    | nil => rw [fS_nil] at h; injection h with h; subst h; simp
    | cons b t =>
      simp only [List.length_cons] at hm ⊢
      rw [fS_cons] at h
      split at h
      · have := ih t (p + 1) l (by omega) h; omega
      · split at h
        · injection h with h; subst h; simp
        · split at h
          · cases hq : qS t with
            | ok text k =>
              rw [hq] at h
              simp only at h
              cases hr : fS (t.drop k) (p + 1 + k) with
              | bad x => rw [hr] at h; cases h
              | ok l' =>
                rw [hr] at h
                simp [FR.cons] at h
                subst h
                have := ih (t.drop k) (p + 1 + k) l' (by simp; omega) hr
                rw [List.length_drop] at this; simp; omega
            | bad k => rw [hq] at h; simp at h
            | stop => rw [hq] at h; simp at h
          · cases hq : wS (b :: t) with
            | inl k =>
              rw [hq] at h
              simp only at h
              cases hr : fS (t.drop (k - 1)) (p + k) with
              | bad x => rw [hr] at h; cases h
              | ok l' =>
                rw [hr] at h
                simp [FR.cons] at h
                subst h
                have := ih (t.drop (k - 1)) (p + k) l' (by simp; omega) hr
                rw [List.length_drop] at this; simp; omega
            | inr k => rw [hq] at h; simp at h
theorem allR_len : ∀ (r : List (List UInt8)) (n : Nat) (p : List T_api_Line × List T_api_Diag), (allR n r p).1.length ≤ p.1.length + r.length ∧ (allR n r p).2.length ≤ p.2.length + r.length
  | [], n, p => by simp [allR]
  | y :: r, n, p => by
    have := allR_len r (n + 1) (accL p (lr n y))
    have h2 : (accL p (lr n y)).1.length ≤ p.1.length + 1 ∧ (accL p (lr n y)).2.length ≤ p.2.length + 1 := by
      rcases lr n y with _ | d | l <;> simp [accL]
    simp only [allR, List.length_cons]
    omega
theorem lr_fields (n : Nat) (y : List UInt8) (l : T_api_Line) (h : lr n y = some (.inr l)) : l.Fields.length ≤ 1000 := by
  unfold lr at h
  split at h
  · cases h
  · cases hf : fS y 0 with
    | bad b => rw [hf] at h; cases h
    | ok fs =>
      rw [hf] at h
      cases fs with
      | nil => cases h
      | cons f fs =>
        injection h with h
        injection h with h
        subst h
        have := fS_ok_len y.length y 0 (f :: fs) (Nat.le_refl _) hf
        show (f :: fs).length ≤ 1000
        omega
theorem allR_fields : ∀ (r : List (List UInt8)) (n : Nat) (p : List T_api_Line × List T_api_Diag), (∀ x ∈ p.1, x.Fields.length ≤ 1000) → ∀ x ∈ (allR n r p).1, x.Fields.length ≤ 1000
  | [], n, p, h => h
  | y :: r, n, p, h => by
    refine allR_fields r (n + 1) (accL p (lr n y)) ?_
    cases hl : lr n y with
    | none => exact h
    | some q =>
      cases q with
      | inl d => exact h
      | inr l =>
        intro x hx
        simp only [accL, List.mem_append, List.mem_singleton] at hx
        rcases hx with hx | rfl
        · exact h x hx
        · exact lr_fields n y _ hl
theorem splitS_small (src : List UInt8) : (splitS src).1.length ≤ 262145 ∧ (splitS src).2.length ≤ 50 ∧ ∀ x ∈ (splitS src).1, x.Fields.length ≤ 1000 := by
  unfold splitS
  split
  · simp
  · have h1 := allR_len (spL src) 0 ([], [])
    have h2 := allR_fields (spL src) 0 ([], []) (by simp)
    have h3 := spL_len src
    simp only [List.length_nil] at h1
    refine ⟨by show (allR 0 (spL src) ([], [])).1.length ≤ _; omega, by simp; omega, h2⟩
theorem LinesSplits_true (src : List UInt8) : g_law07_LinesSplits src = some true := by
  obtain ⟨h1, h2, h3⟩ := splitS_small src
  simp only [g_law07_LinesSplits, awake07, lines_Split_eq, ref_Split_eq, Option.bind_some, if_true, sameLines_refl _ (by omega : (splitS src).1.length ≤ _) (fun x hx => by have := h3 x hx; omega), sameDiags_refl _ (by omega : (splitS src).2.length ≤ _)]
end Go.Proofs.YtncmdhkmbmkiiaaDoor
