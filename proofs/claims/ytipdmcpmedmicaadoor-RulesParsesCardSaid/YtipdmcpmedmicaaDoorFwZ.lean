/- A loop by an invariant, a measure and what holds of what it hands out: plain; no program in sight. -/
import Derived.Test.YtipdmcpmedmicaaDoorFwY
set_option linter.unusedSimpArgs false
set_option linter.unusedVariables false
namespace Go.Proofs.YtipdmcpmedmicaaDoor

theorem iterN_post {X E : Type} {step : X → Option (Nx X E)} (Inv : X → Prop) (μ : X → Nat) (Post : E → Prop) (hs : ∀ x, Inv x → (∃ x', step x = some (.go x') ∧ Inv x' ∧ μ x' < μ x) ∨ ∃ e, step x = some (.out e) ∧ Post e) :
    ∀ (n : Nat) (x : X), Inv x → μ x < n → ∃ e, iterN step n x = some e ∧ Post e := by
  intro n
  induction n with
  | zero => intro x _ h; omega
  | succ n ih =>
    intro x h hμ
    rcases hs x h with ⟨x', h1, h2, h3⟩ | ⟨e, h1, h2⟩
    · simp only [iterN, h1]
      exact ih x' h2 (by omega)
    · exact ⟨e, by simp only [iterN, h1], h2⟩
theorem iter_post {X E : Type} {step : X → Option (Nx X E)} (Inv : X → Prop) (μ : X → Nat) (Post : E → Prop) {x : X} (h : Inv x) (hμ : μ x < 73786976294838206464) (hs : ∀ x, Inv x → (∃ x', step x = some (.go x') ∧ Inv x' ∧ μ x' < μ x) ∨ ∃ e, step x = some (.out e) ∧ Post e) : ∃ e, iter step x = some e ∧ Post e :=
  iterN_post Inv μ Post hs _ x h hμ
/-- A loop that counts from 0 to n. -/
theorem iter_cnt {E : Type} {step : Int → Option (Nx Int E)} (n : Nat) (hn : n ≤ 9223372036854775807) (Inv : Nat → Prop) (Post : E → Prop) (h0 : Inv 0) (hs : ∀ i : Nat, i < n → Inv i → (step i = some (.go ((i : Int) + 1)) ∧ Inv (i + 1)) ∨ ∃ e, step i = some (.out e) ∧ Post e) (hend : Inv n → ∃ e, step n = some (.out e) ∧ Post e) : ∃ e, iter step 0 = some e ∧ Post e := by
  refine iter_post (fun x => ∃ i : Nat, x = (i : Int) ∧ i ≤ n ∧ Inv i) (fun x => n - x.toNat) Post ⟨0, rfl, Nat.zero_le _, h0⟩ (by show n - _ < _; omega) ?_
  rintro x ⟨i, rfl, hi, hI⟩
  by_cases h : i < n
  · rcases hs i h hI with ⟨h1, h2⟩ | h1
    · exact .inl ⟨_, h1, ⟨i + 1, by omega, by omega, h2⟩, by simp only [Int.toNat_natCast]; omega⟩
    · exact .inr h1
  · obtain rfl : i = n := by omega
    exact .inr (hend hI)
theorem wrap_i64 (x : Int) (h : -9223372036854775808 ≤ x) (h' : x ≤ 9223372036854775807) : IntKind.i64.wrap x = x := wr64 ⟨h, h'⟩
theorem atI_some {α : Type} {l : List α} {n : Int} (h0 : 0 ≤ n) (h : n < l.length) : ∃ x, atI l n = some x ∧ x ∈ l ∧ l[n.toNat]? = some x := by
  refine ⟨l[n.toNat]'(by omega), atI_lt h0 (by omega), List.getElem_mem _, List.getElem?_eq_getElem _⟩
theorem u8lt (b : UInt8) : b.toNat < 256 := b.toNat_lt
end Go.Proofs.YtipdmcpmedmicaaDoor
