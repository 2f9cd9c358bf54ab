/- A second reading of a function's text: states may be weakened between statements and where a loop is left; loops as repeated steps. -/
import Derived.Test.YtipdmcpmedmicaaDoorFwS
set_option linter.unusedSimpArgs false
set_option linter.unusedVariables false
namespace Go.Proofs.YtipdmcpmedmicaaDoor
open Go.RowKit

abbrev BPost := AExit → AS → Prop
def bwpLoop (body : AS → BPost → Prop) (S : AS) (Q : BPost) : Prop :=
  ∃ (Inv : AS → Nat → Prop), (∃ S0 n, Wk S S0 ∧ Inv S0 n) ∧ ∀ S' n, Inv S' n → S'.nt = S.nt → body S' fun e S'' => match e with
    | .normal => ∃ S3 m, m < n ∧ Wk S'' S3 ∧ Inv S3 m
    | e => ∃ S3, Wk S'' S3 ∧ Q e S3
def bwp (P : Program) (I : World → Prop) : Code → AS → BPost → Prop
  | .skip, S, Q => Q .normal S
  | .label _, S, Q => Q .normal S
  | .region _ ops false, S, Q => awpL P I ops ops.toList 0 S (Q .normal)
  | .region _ ops true, S, Q => awpD P I ops S (Q .normal)
  | .seq x y, S, Q => bwp P I x S fun e S' => match e with
    | .normal => ∃ S3, Wk S' S3 ∧ bwp P I y S3 Q
    | e => ∃ S3, Wk S' S3 ∧ Q e S3
  | .cond c x y, S, Q => match S.val c with
    | .bool b => (b = true → bwp P I x S Q) ∧ (b = false → bwp P I y S Q)
    | _ => False
  | .block id c, S, Q => bwp P I c S fun e S' => match e with
    | .exit id' => if id' = id then Q .normal S' else Q (.exit id') S'
    | e => Q e S'
  | .exit id, S, Q => Q (.exit id) S
  | .ret, S, Q => Q .ret S
  | .loop c, S, Q => bwpLoop (bwp P I c) S Q
  | .goto l, S, Q => Q (.goto l) S
  | .scope c, S, Q => codeOk S.nt c = true → ∀ (G : Gh) (C : Cx) (a : Act) (w : World), Rel I G (fun id => id < S.next) S C a w → (Code.scope c).wp P (XRel I G S.nt Q) a w
  | _, _, _ => False
section
variable {P : Program} {I : World → Prop}
theorem bwp_mono : ∀ (c : Code) (S : AS) (Q Q' : BPost), (∀ e S, Q e S → Q' e S) → bwp P I c S Q → bwp P I c S Q' := by
  intro c
  induction c with
  | skip => intro S Q Q' hq h; exact hq _ _ h
  | label l => intro S Q Q' hq h; exact hq _ _ h
  | region id ops dr =>
    intro S Q Q' hq h
    cases dr with
    | false => exact awpL_mono _ _ _ _ _ (fun S' h' => hq _ _ h') h
    | true => exact fun hd G C a w hR Q0 rid hK => h hd G C a w hR Q0 rid fun S' C' a' w' hk => hK S' C' a' w' (hq _ _ hk)
  | seq x y ihx ihy =>
    intro S Q Q' hq h
    simp only [bwp] at h ⊢
    refine ihx _ _ _ ?_ h
    intro e S' h'
    cases e with
    | normal => obtain ⟨S3, h1, h2⟩ := h'; exact ⟨S3, h1, ihy _ _ _ hq h2⟩
    | exit id => obtain ⟨S3, h1, h2⟩ := h'; exact ⟨S3, h1, hq _ _ h2⟩
    | ret => obtain ⟨S3, h1, h2⟩ := h'; exact ⟨S3, h1, hq _ _ h2⟩
    | goto l => obtain ⟨S3, h1, h2⟩ := h'; exact ⟨S3, h1, hq _ _ h2⟩
  | cond c x y ihx ihy =>
    intro S Q Q' hq h
    simp only [bwp] at h ⊢
    cases hv : S.val c <;> rw [hv] at h <;> simp only at h ⊢
    exact ⟨fun hb => ihx _ _ _ hq (h.1 hb), fun hb => ihy _ _ _ hq (h.2 hb)⟩
  | block id c ih =>
    intro S Q Q' hq h
    simp only [bwp] at h ⊢
    refine ih _ _ _ ?_ h
    intro e S' h'
    cases e with
    | normal => exact hq _ _ h'
    | exit id' =>
      simp only at h' ⊢
      split
      · rename_i he; rw [if_pos he] at h'; exact hq _ _ h'
      · rename_i he; rw [if_neg he] at h'; exact hq _ _ h'
    | ret => exact hq _ _ h'
    | goto l => exact hq _ _ h'
  | loop c ih =>
    intro S Q Q' hq h
    simp only [bwp] at h ⊢
    obtain ⟨Inv, h0, h1⟩ := h
    refine ⟨Inv, h0, fun S' n hi hnt => ih _ _ _ ?_ (h1 S' n hi hnt)⟩
    intro e S'' h'
    cases e with
    | normal => exact h'
    | exit id => obtain ⟨S3, k1, k2⟩ := h'; exact ⟨S3, k1, hq _ _ k2⟩
    | ret => obtain ⟨S3, k1, k2⟩ := h'; exact ⟨S3, k1, hq _ _ k2⟩
    | goto l => obtain ⟨S3, k1, k2⟩ := h'; exact ⟨S3, k1, hq _ _ k2⟩
  | exit id => intro S Q Q' hq h; exact hq _ _ h
  | ret => intro S Q Q' hq h; exact hq _ _ h
  | rangeFunc f ps x y ihx ihy => intro S Q Q' hq h; exact h.elim
  | scope b ih =>
    intro S Q Q' hq h hok G C a w hR
    refine wp_mono (h hok G C a w hR) ?_
    rintro e a' w' ⟨S', C', hnt, hR', hq'⟩
    refine ⟨S', C', hnt, hR', ?_⟩
    cases e <;> first | exact hq _ _ hq' | exact hq'
  | goto l => intro S Q Q' hq h; exact hq _ _ h
  | refuse why => intro S Q Q' hq h; exact h.elim
theorem bwp_sound (hstab : Stab I) : ∀ (c : Code) (S : AS) (Q : BPost) (G : Gh) (C : Cx) (a : Act) (w : World), codeOk S.nt c = true → bwp P I c S Q → Rel I G (fun id => id < S.next) S C a w → c.wp P (XRel I G S.nt Q) a w := by
  intro c
  induction c with
  | skip => intro S Q G C a w hok h hR; exact wp_skip ⟨S, C, rfl, hR, h⟩
  | label l => intro S Q G C a w hok h hR; exact wp_label ⟨S, C, rfl, hR, h⟩
  | region id ops dr =>
    intro S Q G C a w hok h hR
    cases dr with
    | false =>
      simp only [bwp] at h
      refine wp_region ?_
      have := awpL_sound (Q := XRel I G S.nt Q) hstab hok S.next S.nt ops.toList 0 S C a w (Q .normal) (by simp) rfl hok rfl hR h (fun S' C' a' w' hk hnt hr => ⟨S', C', hnt, hr, hk⟩)
      rw [List.range_eq_range']
      simpa using this
    | true =>
      simp only [bwp] at h
      exact h hok G C a w hR (XRel I G S.nt Q) id fun S' C' a' w' hk hnt hr => ⟨S', C', hnt, hr, hk⟩
  | seq x y ihx ihy =>
    intro S Q G C a w hok h hR
    simp only [bwp] at h
    simp only [codeOk, Bool.and_eq_true] at hok
    refine wp_seq (wp_mono (ihx S _ G C a w hok.1 h hR) ?_)
    rintro e a' w' ⟨S', C', hnt, hR', hq⟩
    cases e with
    | normal =>
      simp only [Exit.then]
      obtain ⟨S3, hwk, hq⟩ := hq
      obtain ⟨C3, hR3⟩ := hwk.2 I G C' a' w' hR'
      have hnt3 : S3.nt = S.nt := hwk.1.trans hnt
      have := ihy S3 Q G C3 a' w' (by rw [hnt3]; exact hok.2) hq hR3
      rw [hnt3] at this
      exact this
    | exit id =>
      obtain ⟨S3, hwk, hq⟩ := hq
      obtain ⟨C3, hR3⟩ := hwk.2 I G C' a' w' hR'
      exact ⟨S3, C3, hwk.1.trans hnt, hR3, hq⟩
    | ret =>
      obtain ⟨S3, hwk, hq⟩ := hq
      obtain ⟨C3, hR3⟩ := hwk.2 I G C' a' w' hR'
      exact ⟨S3, C3, hwk.1.trans hnt, hR3, hq⟩
    | goto l =>
      obtain ⟨S3, hwk, hq⟩ := hq
      obtain ⟨C3, hR3⟩ := hwk.2 I G C' a' w' hR'
      exact ⟨S3, C3, hwk.1.trans hnt, hR3, hq⟩
    | panic ch => exact hq.elim
    | outgrown => exact hq.elim
  | cond c x y ihx ihy =>
    intro S Q G C a w hok h hR
    simp only [bwp] at h
    have hc := hR.ok.env.val c
    cases hv : S.val c <;> rw [hv] at h hc <;> simp only at h
    rename_i b
    generalize hu : a.eval c = u at hc
    cases hc
    refine wp_cond hu ?_
    simp only [codeOk, Bool.and_eq_true] at hok
    cases b with
    | true => exact ihx S Q G C a w hok.1 (h.1 rfl) hR
    | false => exact ihy S Q G C a w hok.2 (h.2 rfl) hR
  | block id c ih =>
    intro S Q G C a w hok h hR
    simp only [bwp] at h
    refine wp_block (wp_mono (ih S _ G C a w hok h hR) ?_)
    rintro e a' w' ⟨S', C', hnt, hR', hq⟩
    cases e with
    | normal => exact ⟨S', C', hnt, hR', hq⟩
    | exit id' =>
      simp only [Exit.inBlock]
      simp only at hq
      split
      · rename_i he; rw [if_pos he] at hq; exact ⟨S', C', hnt, hR', hq⟩
      · rename_i he; rw [if_neg he] at hq; exact ⟨S', C', hnt, hR', hq⟩
    | ret => exact ⟨S', C', hnt, hR', hq⟩
    | goto l => exact ⟨S', C', hnt, hR', hq⟩
    | panic ch => exact hq.elim
    | outgrown => exact hq.elim
  | loop c ih =>
    intro S Q G C a w hok h hR
    simp only [bwp, bwpLoop] at h
    obtain ⟨Inv, ⟨S0, n0, hw0, hi0⟩, hround⟩ := h
    obtain ⟨C0, hR0⟩ := hw0.2 I G C a w hR
    let J : Nat → Act → World → Prop := fun n a w => ∃ S' C', Inv S' n ∧ S'.nt = S.nt ∧ Rel I G (fun id => id < S'.next) S' C' a w
    have key : ∀ n a w, J n a w → (Code.loop c).wp P (XRel I G S.nt Q) a w := by
      intro n a w hJ
      intro b k cs
      have inner : ∀ n a w, J n a w → ∃ e a' w', XRel I G S.nt Q e a' w' ∧ Arrives P (lone (b.at a (.code c :: .inLoop c :: k)) cs w) b k cs e a' w' := by
        intro n
        induction n using Nat.strongRecOn with
        | _ n ihn =>
          intro a w ⟨S', C', hI, hnt, hR'⟩
          obtain ⟨e, a₁, w₁, ⟨S1, C1, hnt1, hR1, hq⟩, harr⟩ := ih S' _ G C' a w (by rw [hnt]; exact hok) (hround S' n hI hnt) hR' b (.inLoop c :: k) cs
          cases e with
          | normal =>
            obtain ⟨S3, m, hm, hwk, hI3⟩ := hq
            obtain ⟨C3, hR3⟩ := hwk.2 I G C1 a₁ w₁ hR1
            obtain ⟨e₂, a₂, w₂, hq₂, harr₂⟩ := ihn m hm a₁ w₁ ⟨S3, C3, hI3, by rw [hwk.1, hnt1, hnt], hR3⟩
            exact ⟨e₂, a₂, w₂, hq₂, .of_steps (Steps.trans harr (.one step_inLoop)) harr₂⟩
          | exit id =>
            obtain ⟨S3, hwk, hq⟩ := hq
            obtain ⟨C3, hR3⟩ := hwk.2 I G C1 a₁ w₁ hR1
            exact ⟨_, a₁, w₁, ⟨S3, C3, by rw [hwk.1, hnt1, hnt], hR3, hq⟩, .pass (x := .inLoop c) rfl (fun _ _ => .inl (by simp)) harr⟩
          | ret =>
            obtain ⟨S3, hwk, hq⟩ := hq
            obtain ⟨C3, hR3⟩ := hwk.2 I G C1 a₁ w₁ hR1
            exact ⟨_, a₁, w₁, ⟨S3, C3, by rw [hwk.1, hnt1, hnt], hR3, hq⟩, .pass (x := .inLoop c) rfl (fun _ _ => .inl (by simp)) harr⟩
          | goto l =>
            obtain ⟨S3, hwk, hq⟩ := hq
            obtain ⟨C3, hR3⟩ := hwk.2 I G C1 a₁ w₁ hR1
            exact ⟨_, a₁, w₁, ⟨S3, C3, by rw [hwk.1, hnt1, hnt], hR3, hq⟩, .pass (x := .inLoop c) rfl (fun _ _ => .inl (by simp)) harr⟩
          | panic ch => exact hq.elim
          | outgrown => exact hq.elim
      obtain ⟨e, a', w', hq, harr⟩ := inner n a w hJ
      exact ⟨e, a', w', hq, .of_steps (.one step_loop) harr⟩
    exact key n0 a w ⟨S0, C0, hi0, hw0.1, hR0⟩
  | exit id => intro S Q G C a w hok h hR; exact wp_exit ⟨S, C, rfl, hR, h⟩
  | ret => intro S Q G C a w hok h hR; exact wp_ret ⟨S, C, rfl, hR, h⟩
  | rangeFunc f ps x y ihx ihy => intro S Q G C a w hok h hR; exact h.elim
  | scope b ih => intro S Q G C a w hok h hR; exact h hok G C a w hR
  | goto l => intro S Q G C a w hok h hR; exact wp_goto ⟨S, C, rfl, hR, h⟩
  | refuse why => intro S Q G C a w hok h hR; exact h.elim
end
end Go.Proofs.YtipdmcpmedmicaaDoor
