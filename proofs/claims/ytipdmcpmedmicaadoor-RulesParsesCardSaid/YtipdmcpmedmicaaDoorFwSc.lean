/- Scopes in the second reading: a jump forward to a label of the scope. -/
import Derived.Test.YtipdmcpmedmicaaDoorFwV
import Derived.Scope
set_option linter.unusedSimpArgs false
set_option linter.unusedVariables false
namespace Go.Proofs.YtipdmcpmedmicaaDoor
open Go.RowKit

/-- What a jump out of a scope must show. -/
def passE (c : Code) (Q : Exit → Act → World → Prop) : Exit → Act → World → Prop
  | .goto l, a, w => findLabel c l = none ∧ Q (.goto l) a w
  | e, a, w => Q e a w
def hitE (P : Program) (c : Code) (Q : Exit → Act → World → Prop) : Exit → Act → World → Prop
  | .goto l, a, w => match findLabel c l with
    | some rest => rest.wp P (passE c Q) a w
    | none => Q (.goto l) a w
  | e, a, w => Q e a w
theorem wp_scope_fwd {P : Program} {c : Code} {Q : Exit → Act → World → Prop} {a : Act} {w : World} (h : c.wp P (hitE P c Q) a w) : (Code.scope c).wp P Q a w := by
  intro b k cs
  have out : ∀ (m : Machine) (e : Exit) (a : Act) (w : World), passE c Q e a w → Arrives P m b (.inScope c :: k) cs e a w → Q e a w ∧ Arrives P m b k cs e a w := by
    intro m e a w hq harr
    cases e with
    | normal => exact ⟨hq, Steps.trans harr (.one step_inScope)⟩
    | exit id => exact ⟨hq, fun k' hk => harr k' (by simp [exitTo, hk])⟩
    | goto l' => exact ⟨hq.2, fun k' hk => harr k' (by simp [gotoIn, hq.1, hk])⟩
    | ret => exact ⟨hq, harr⟩
    | panic ch => exact ⟨hq, harr⟩
    | outgrown => exact ⟨hq, harr⟩
  obtain ⟨e, a₁, w₁, hq, harr⟩ := h b (.inScope c :: k) cs
  have fin : passE c Q e a₁ w₁ → ∃ e a' w', Q e a' w' ∧ Arrives P (lone (b.at a (.code (.scope c) :: k)) cs w) b k cs e a' w' := by
    intro hp
    obtain ⟨h1, h2⟩ := out _ _ _ _ hp harr
    exact ⟨e, a₁, w₁, h1, .of_steps (.one step_scope) h2⟩
  cases e with
  | goto l =>
    simp only [hitE] at hq
    cases hf : findLabel c l with
    | none => rw [hf] at hq; exact fin ⟨hf, hq⟩
    | some rest =>
      rw [hf] at hq
      have hg : gotoIn l (.inScope c :: k) = some (.code rest :: .inScope c :: k) := by simp [gotoIn, hf]
      obtain ⟨e₂, a₂, w₂, hq₂, harr₂⟩ := hq b (.inScope c :: k) cs
      obtain ⟨h1, h2⟩ := out _ _ _ _ hq₂ harr₂
      exact ⟨e₂, a₂, w₂, h1, .of_steps (.head step_scope (harr _ hg)) h2⟩
  | normal => exact fin hq
  | exit id => exact fin hq
  | ret => exact fin hq
  | panic ch => exact fin hq
  | outgrown => exact fin hq
theorem codeOk_find {nt l : Nat} : ∀ (c rest : Code), codeOk nt c = true → findLabel c l = some rest → codeOk nt rest = true := by
  intro c
  induction c with
  | seq x y ihx ihy =>
    intro rest hok hf
    simp only [codeOk, Bool.and_eq_true] at hok
    simp only [findLabel] at hf
    cases h1 : findLabel x l with
    | some r =>
      rw [h1] at hf
      simp at hf
      subst hf
      simp only [codeOk, Bool.and_eq_true]
      exact ⟨ihx r hok.1 h1, hok.2⟩
    | none => rw [h1] at hf; exact ihy rest hok.2 hf
  | label l' =>
    intro rest hok hf
    simp only [findLabel] at hf
    split at hf
    · injection hf with hf; subst hf; rfl
    · cases hf
  | _ => intro rest hok hf; simp [findLabel] at hf
section
variable {P : Program} {I : World → Prop}
def passQ (c : Code) (Q : BPost) : BPost := fun e S => match e with
  | .goto l => findLabel c l = none ∧ Q (.goto l) S
  | e => Q e S
def hitQ (P : Program) (I : World → Prop) (c : Code) (Q : BPost) : BPost := fun e S => match e with
  | .goto l => match findLabel c l with
    | some rest => ∃ S3, Wk S S3 ∧ bwp P I rest S3 (passQ c Q)
    | none => Q (.goto l) S
  | e => Q e S
theorem bwp_scope (hstab : Stab I) {c : Code} {S : AS} {Q : BPost} (h : bwp P I c S (hitQ P I c Q)) : bwp P I (.scope c) S Q := by
  intro hok G C a w hR
  refine wp_scope_fwd (wp_mono (bwp_sound hstab c S _ G C a w hok h hR) ?_)
  rintro e a' w' ⟨S', C', hnt, hR', hq⟩
  cases e with
  | normal => exact ⟨S', C', hnt, hR', hq⟩
  | exit id => exact ⟨S', C', hnt, hR', hq⟩
  | ret => exact ⟨S', C', hnt, hR', hq⟩
  | panic ch => exact hq.elim
  | outgrown => exact hq.elim
  | goto l =>
    simp only [hitQ] at hq
    simp only [hitE]
    cases hf : findLabel c l with
    | none => rw [hf] at hq; exact ⟨S', C', hnt, hR', hq⟩
    | some rest =>
      rw [hf] at hq
      obtain ⟨S3, hwk, hb⟩ := hq
      obtain ⟨C3, hR3⟩ := hwk.2 I G C' a' w' hR'
      have hnt3 : S3.nt = S.nt := hwk.1.trans hnt
      refine wp_mono (bwp_sound hstab rest S3 _ G C3 a' w' (by rw [hnt3]; exact codeOk_find c rest hok hf) hb hR3) ?_
      rintro e a2 w2 ⟨S2, C2, hnt2, hR2, hq2⟩
      rw [hnt3] at hnt2
      cases e with
      | normal => exact ⟨S2, C2, hnt2, hR2, hq2⟩
      | exit id => exact ⟨S2, C2, hnt2, hR2, hq2⟩
      | ret => exact ⟨S2, C2, hnt2, hR2, hq2⟩
      | panic ch => exact hq2.elim
      | outgrown => exact hq2.elim
      | goto l2 => exact ⟨hq2.1, S2, C2, hnt2, hR2, hq2.2⟩
end
end Go.Proofs.YtipdmcpmedmicaaDoor
