/- Laws of repeated steps, of wrapped numbers, of elements: plain; no program in sight. -/
import Derived.Test.YtipdmcpmedmicaaDoorFwX
set_option linter.unusedSimpArgs false
set_option linter.unusedVariables false
namespace Go.Proofs.YtipdmcpmedmicaaDoor

theorem iterN_of {X E : Type} {step : X → Option (Nx X E)} (R : X → E → Prop) (μ : X → Nat) (hs : ∀ x e, R x e → (∃ x', step x = some (.go x') ∧ R x' e ∧ μ x' < μ x) ∨ step x = some (.out e)) :
    ∀ (n : Nat) (x : X) (e : E), R x e → μ x < n → iterN step n x = some e := by
  intro n
  induction n with
  | zero => intro x e _ h; omega
  | succ n ih =>
    intro x e h hμ
    rcases hs x e h with ⟨x', h1, h2, h3⟩ | h1
    · simp only [iterN, h1]
      exact ih x' e h2 (by omega)
    · simp only [iterN, h1]
/-- A loop by an invariant and a measure. -/
theorem iter_of {X E : Type} {step : X → Option (Nx X E)} (R : X → E → Prop) (μ : X → Nat) (hs : ∀ x e, R x e → (∃ x', step x = some (.go x') ∧ R x' e ∧ μ x' < μ x) ∨ step x = some (.out e)) {x : X} {e : E} (h : R x e) (hμ : μ x < 73786976294838206464) : iter step x = some e :=
  iterN_of R μ hs _ x e h hμ
/-- A loop over indices; what it hands out is told from each index on. -/
theorem iter_idx {E : Type} {step : Int → Option (Nx Int E)} (n : Nat) (hn : n ≤ 9223372036854775807) (res : Nat → E) (hgo : ∀ i : Nat, i < n → (step i = some (.go ((i : Int) + 1)) ∧ res i = res (i + 1)) ∨ step i = some (.out (res i))) (hend : step n = some (.out (res n))) : iter step 0 = some (res 0) := by
  refine iter_of (fun (x : Int) e => ∃ i : Nat, x = (i : Int) ∧ i ≤ n ∧ e = res i) (fun (x : Int) => n - x.toNat) ?_ (x := 0) ⟨0, rfl, Nat.zero_le _, rfl⟩ (by show n - _ < _; omega)
  rintro x e ⟨i, rfl, hi, rfl⟩
  by_cases h : i < n
  · rcases hgo i h with ⟨h1, h2⟩ | h1
    · exact .inl ⟨(i : Int) + 1, h1, ⟨i + 1, by omega, by omega, h2⟩, by simp only [Int.toNat_natCast]; omega⟩
    · exact .inr h1
  · obtain rfl : i = n := by omega
    exact .inr hend
/-- Such a loop ends. -/
theorem iter_ends {E : Type} {step : Int → Option (Nx Int E)} (n : Nat) (hn : n ≤ 9223372036854775807) (hgo : ∀ i : Nat, i < n → step i = some (.go ((i : Int) + 1)) ∨ ∃ e, step i = some (.out e)) (hend : ∃ e, step n = some (.out e)) : ∃ e, iter step 0 = some e := by
  have key : ∀ m : Nat, ∀ i : Nat, i ≤ n → n - i ≤ m → ∃ e, ∀ k : Nat, m < k → iterN step k (i : Int) = some e := by
    intro m
    induction m with
    | zero =>
      intro i hi hm
      obtain rfl : i = n := by omega
      obtain ⟨e, he⟩ := hend
      exact ⟨e, fun k hk => by cases k with | zero => omega | succ k => simp only [iterN, he]⟩
    | succ m ih =>
      intro i hi hm
      by_cases h : i < n
      · rcases hgo i h with h1 | ⟨e, h1⟩
        · obtain ⟨e, he⟩ := ih (i + 1) (by omega) (by omega)
          refine ⟨e, fun k hk => ?_⟩
          cases k with
          | zero => omega
          | succ k =>
            simp only [iterN, h1]
            have := he k (by omega)
            simpa using this
        · exact ⟨e, fun k hk => by cases k with | zero => omega | succ k => simp only [iterN, h1]⟩
      · obtain rfl : i = n := by omega
        obtain ⟨e, he⟩ := hend
        exact ⟨e, fun k hk => by cases k with | zero => omega | succ k => simp only [iterN, he]⟩
  obtain ⟨e, he⟩ := key n 0 (Nat.zero_le _) (by omega)
  exact ⟨e, he _ (by omega)⟩
theorem wr64 {x : Int} (h : -9223372036854775808 ≤ x ∧ x ≤ 9223372036854775807) : IntKind.i64.wrap x = x := wk64 h
theorem wr8 {x : Int} (h : 0 ≤ x ∧ x ≤ 255) : IntKind.u8.wrap x = x := by
  simp [IntKind.wrap, IntKind.bits, IntKind.signed]
  omega
theorem atI_nat {α : Type} {l : List α} {n : Nat} (h : n < l.length) : atI l (n : Int) = some l[n] := by
  simp [atI, h]
theorem atI_lt {α : Type} {l : List α} {n : Int} (h0 : 0 ≤ n) (h : n.toNat < l.length) : atI l n = some (l[n.toNat]'h) := by
  simp [atI, h0, h]
end Go.Proofs.YtipdmcpmedmicaaDoor
