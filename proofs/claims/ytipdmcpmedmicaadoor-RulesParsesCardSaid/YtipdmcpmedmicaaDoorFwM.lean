/- The abstract reading of a function's text, and that it is sound. -/
import Derived.Test.YtipdmcpmedmicaaDoorFwL
set_option linter.unusedSimpArgs false
set_option linter.unusedVariables false
namespace Go.Proofs.YtipdmcpmedmicaaDoor
open Go.RowKit

inductive AExit where
  | normal
  | exit (id : Nat)
  | ret
  | goto (l : Nat)

/-- One abstract state says no more than another. -/
def Wk (S S' : AS) : Prop := S'.nt = S.nt ∧ ∀ I G C a w, Rel I G (fun id => id < S.next) S C a w → ∃ C', Rel I G (fun id => id < S'.next) S' C' a w
theorem Wk.refl (S : AS) : Wk S S := ⟨rfl, fun _ _ C _ _ h => ⟨C, h⟩⟩

/-- Regions that draw their order: FwN. -/
def awpD (P : Program) (I : World → Prop) (ops : Array Oper) (S : AS) (K : AS → Prop) : Prop :=
  dstsOk ops S.nt = true → ∀ G C a w, Rel I G (fun id => id < S.next) S C a w → ∀ (Q : Exit → Act → World → Prop) rid, (∀ S' C' a' w', K S' → S'.nt = S.nt → Rel I G (fun id => id < S'.next) S' C' a' w' → Q .normal a' w') → (Code.region rid ops true).wp P Q a w

/-- A loop: an invariant with a number that each round lowers. -/
def awpLoop (body : AS → (AExit → AS → Prop) → Prop) (S : AS) (Q : AExit → AS → Prop) : Prop :=
  ∃ (Inv : AS → Nat → Prop), (∃ S0 n, Wk S S0 ∧ Inv S0 n) ∧ ∀ S' n, Inv S' n → S'.nt = S.nt → body S' fun e S'' => match e with
    | .normal => ∃ S3 m, m < n ∧ Wk S'' S3 ∧ Inv S3 m
    | e => Q e S''
/-- A loop whose states are numbered. -/
theorem awpLoop.nat {body : AS → (AExit → AS → Prop) → Prop} {S : AS} {Q : AExit → AS → Prop} (St : Nat → AS) (N : Nat) (h0 : Wk S (St 0)) (h : ∀ k, k ≤ N → body (St k) fun e S'' => match e with
    | .normal => k < N ∧ Wk S'' (St (k + 1))
    | e => Q e S'') (hmono : ∀ (S : AS) (Q Q' : AExit → AS → Prop), (∀ e S, Q e S → Q' e S) → body S Q → body S Q') : awpLoop body S Q := by
  refine ⟨fun S n => ∃ k, k ≤ N ∧ S = St k ∧ n = N - k, ⟨St 0, N, h0, 0, Nat.zero_le _, rfl, rfl⟩, ?_⟩
  rintro S' n ⟨k, hk, rfl, rfl⟩ _
  refine hmono _ _ _ ?_ (h k hk)
  intro e S'' hq
  cases e with
  | normal => exact ⟨St (k + 1), N - (k + 1), by have := hq.1; omega, hq.2, k + 1, by have := hq.1; omega, rfl, rfl⟩
  | exit id => exact hq
  | ret => exact hq
  | goto l => exact hq
def awp (P : Program) (I : World → Prop) : Code → AS → (AExit → AS → Prop) → Prop
  | .skip, S, Q => Q .normal S
  | .label _, S, Q => Q .normal S
  | .region _ ops false, S, Q => awpL P I ops ops.toList 0 S (Q .normal)
  | .region _ ops true, S, Q => awpD P I ops S (Q .normal)
  | .seq x y, S, Q => awp P I x S fun e S' => match e with
    | .normal => awp P I y S' Q
    | e => Q e S'
  | .cond c x y, S, Q => match S.val c with
    | .bool b => if b then awp P I x S Q else awp P I y S Q
    | _ => False
  | .block id c, S, Q => awp P I c S fun e S' => match e with
    | .exit id' => if id' = id then Q .normal S' else Q (.exit id') S'
    | e => Q e S'
  | .exit id, S, Q => Q (.exit id) S
  | .ret, S, Q => Q .ret S
  | .loop c, S, Q => awpLoop (awp P I c) S Q
  | _, _, _ => False

/-- The slots that a text writes are there. -/
def codeOk (nt : Nat) : Code → Bool
  | .region _ ops _ => dstsOk ops nt
  | .seq x y | .cond _ x y => codeOk nt x && codeOk nt y
  | .block _ c | .loop c | .scope c => codeOk nt c
  | _ => true
section
variable {P : Program} {I : World → Prop}
theorem awpO_mono {ops : Array Oper} {i : Nat} {o : Oper} {S : AS} {K K' : AS → Prop} (hK : ∀ S, K S → K' S) (h : awpO P I ops i o S K) : awpO P I ops i o S K' := by
  unfold awpO at *
  cases hw : awant ops S.env o with
  | none => rw [hw] at h; exact h.elim
  | some r =>
    simp only [hw] at h ⊢
    split
    · rename_i hc
      rw [if_pos hc] at h
      cases hcal : acallee S o.op with
      | some fds =>
        obtain ⟨f, ds⟩ := fds
        simp only [hcal] at h ⊢
        rcases h with h | h
        · left
          cases hp : purDs S.heap ds with
          | none => simp only [hp] at h
          | some p =>
            obtain ⟨ds', eff⟩ := p
            simp only [hp] at h ⊢
            obtain ⟨d, h1, h2⟩ := h
            exact ⟨d, h1, hK _ h2⟩
        · right
          cases hp : purXs S.heap ds with
          | none => simp only [hp] at h
          | some p =>
            obtain ⟨ds', ep⟩ := p
            simp only [hp] at h ⊢
            obtain ⟨d, eff, h1, h2⟩ := h
            exact ⟨d, eff, h1, hK _ h2⟩
      | none =>
        simp only [hcal] at h ⊢
        cases hp : aop P o.op (S.next + i) S with
        | none => simp only [hp] at h
        | some p =>
          obtain ⟨d, eff⟩ := p
          simp only [hp] at h ⊢
          exact hK _ h
    · rename_i hc
      rw [if_neg hc] at h
      exact hK _ h
theorem awpL_mono {ops : Array Oper} : ∀ (l : List Oper) (i : Nat) (S : AS) (K K' : AS → Prop), (∀ S, K S → K' S) → awpL P I ops l i S K → awpL P I ops l i S K'
  | [], _, _, _, _, hK, h => hK _ h
  | _ :: l, i, _, _, _, hK, h => awpO_mono (fun S' h' => awpL_mono l (i + 1) S' _ _ hK h') h
theorem awp_mono : ∀ (c : Code) (S : AS) (Q Q' : AExit → AS → Prop), (∀ e S, Q e S → Q' e S) → awp P I c S Q → awp P I c S Q' := by
  intro c
  induction c with
  | skip => intro S Q Q' hq h; exact hq _ _ h
  | label l => intro S Q Q' hq h; exact hq _ _ h
  | region id ops dr =>
    intro S Q Q' hq h
    cases dr with
    | false => exact awpL_mono _ _ _ _ _ (fun S' h' => hq _ _ h') h
    | true => exact fun hd G C a w hR Q0 rid hK => h hd G C a w hR Q0 rid fun S' C' a' w' hk => hK S' C' a' w' (hq _ _ hk)
  | seq x y ihx ihy =>
    intro S Q Q' hq h
    simp only [awp] at h ⊢
    refine ihx _ _ _ ?_ h
    intro e S' h'
    cases e with
    | normal => exact ihy _ _ _ hq h'
    | exit id => exact hq _ _ h'
    | ret => exact hq _ _ h'
    | goto l => exact hq _ _ h'
  | cond c x y ihx ihy =>
    intro S Q Q' hq h
    simp only [awp] at h ⊢
    cases hv : S.val c <;> rw [hv] at h <;> simp only at h ⊢
    split
    · rename_i hb; rw [if_pos hb] at h; exact ihx _ _ _ hq h
    · rename_i hb; rw [if_neg hb] at h; exact ihy _ _ _ hq h
  | block id c ih =>
    intro S Q Q' hq h
    simp only [awp] at h ⊢
    refine ih _ _ _ ?_ h
    intro e S' h'
    cases e with
    | normal => exact hq _ _ h'
    | exit id' =>
      simp only at h' ⊢
      split
      · rename_i he; rw [if_pos he] at h'; exact hq _ _ h'
      · rename_i he; rw [if_neg he] at h'; exact hq _ _ h'
    | ret => exact hq _ _ h'
    | goto l => exact hq _ _ h'
  | loop c ih =>
    intro S Q Q' hq h
    simp only [awp] at h ⊢
    obtain ⟨Inv, h0, h1⟩ := h
    refine ⟨Inv, h0, fun S' n hi hnt => ih _ _ _ ?_ (h1 S' n hi hnt)⟩
    intro e S'' h'
    cases e with
    | normal => exact h'
    | exit id => exact hq _ _ h'
    | ret => exact hq _ _ h'
    | goto l => exact hq _ _ h'
  | exit id => intro S Q Q' hq h; exact hq _ _ h
  | ret => intro S Q Q' hq h; exact hq _ _ h
  | rangeFunc f ps x y ihx ihy => intro S Q Q' hq h; exact h.elim
  | scope b ih => intro S Q Q' hq h; exact h.elim
  | goto l => intro S Q Q' hq h; exact h.elim
  | refuse why => intro S Q Q' hq h; exact h.elim
/-- What an abstract exit says of the machine's. -/
def XRel (I : World → Prop) (G : Gh) (nt : Nat) (Q : AExit → AS → Prop) (e : Exit) (a : Act) (w : World) : Prop :=
  ∃ S C, S.nt = nt ∧ Rel I G (fun id => id < S.next) S C a w ∧ match e with
    | .normal => Q .normal S
    | .exit id => Q (.exit id) S
    | .ret => Q .ret S
    | .goto l => Q (.goto l) S
    | _ => False
theorem awp_sound (hstab : Stab I) : ∀ (c : Code) (S : AS) (Q : AExit → AS → Prop) (G : Gh) (C : Cx) (a : Act) (w : World), codeOk S.nt c = true → awp P I c S Q → Rel I G (fun id => id < S.next) S C a w → c.wp P (XRel I G S.nt Q) a w := by
  intro c
  induction c with
  | skip => intro S Q G C a w hok h hR; exact wp_skip ⟨S, C, rfl, hR, h⟩
  | label l => intro S Q G C a w hok h hR; exact wp_label ⟨S, C, rfl, hR, h⟩
  | region id ops dr =>
    intro S Q G C a w hok h hR
    cases dr with
    | false =>
      simp only [awp] at h
      refine wp_region ?_
      have := awpL_sound (Q := XRel I G S.nt Q) hstab hok S.next S.nt ops.toList 0 S C a w (Q .normal) (by simp) rfl hok rfl hR h (fun S' C' a' w' hk hnt hr => ⟨S', C', hnt, hr, hk⟩)
      rw [List.range_eq_range']
      simpa using this
    | true =>
      simp only [awp] at h
      exact h hok G C a w hR (XRel I G S.nt Q) id fun S' C' a' w' hk hnt hr => ⟨S', C', hnt, hr, hk⟩
  | seq x y ihx ihy =>
    intro S Q G C a w hok h hR
    simp only [awp] at h
    simp only [codeOk, Bool.and_eq_true] at hok
    refine wp_seq (wp_mono (ihx S _ G C a w hok.1 h hR) ?_)
    rintro e a' w' ⟨S', C', hnt, hR', hq⟩
    cases e with
    | normal => simp only [Exit.then]; have := ihy S' Q G C' a' w' (by rw [hnt]; exact hok.2) hq hR'; rw [hnt] at this; exact this
    | exit id => exact ⟨S', C', hnt, hR', hq⟩
    | ret => exact ⟨S', C', hnt, hR', hq⟩
    | goto l => exact ⟨S', C', hnt, hR', hq⟩
    | panic ch => exact hq.elim
    | outgrown => exact hq.elim
  | cond c x y ihx ihy =>
    intro S Q G C a w hok h hR
    simp only [awp] at h
    have hc := hR.ok.env.val c
    cases hv : S.val c <;> rw [hv] at h hc <;> simp only at h
    rename_i b
    generalize hu : a.eval c = u at hc
    cases hc
    refine wp_cond hu ?_
    simp only [codeOk, Bool.and_eq_true] at hok
    cases b with
    | true => simp only [if_true] at h ⊢; exact ihx S Q G C a w hok.1 h hR
    | false => simp only [Bool.false_eq_true, if_false] at h ⊢; exact ihy S Q G C a w hok.2 h hR
  | block id c ih =>
    intro S Q G C a w hok h hR
    simp only [awp] at h
    refine wp_block (wp_mono (ih S _ G C a w hok h hR) ?_)
    rintro e a' w' ⟨S', C', hnt, hR', hq⟩
    cases e with
    | normal => exact ⟨S', C', hnt, hR', hq⟩
    | exit id' =>
      simp only [Exit.inBlock]
      simp only at hq
      split
      · rename_i he; rw [if_pos he] at hq; exact ⟨S', C', hnt, hR', hq⟩
      · rename_i he; rw [if_neg he] at hq; exact ⟨S', C', hnt, hR', hq⟩
    | ret => exact ⟨S', C', hnt, hR', hq⟩
    | goto l => exact ⟨S', C', hnt, hR', hq⟩
    | panic ch => exact hq.elim
    | outgrown => exact hq.elim
  | loop c ih =>
    intro S Q G C a w hok h hR
    simp only [awp, awpLoop] at h
    obtain ⟨Inv, ⟨S0, n0, hw0, hi0⟩, hround⟩ := h
    obtain ⟨C0, hR0⟩ := hw0.2 I G C a w hR
    -- the measure: the least number at which the invariant holds of a state that stands for the machine's
    let J : Nat → Act → World → Prop := fun n a w => ∃ S' C', Inv S' n ∧ S'.nt = S.nt ∧ Rel I G (fun id => id < S'.next) S' C' a w
    have key : ∀ n a w, J n a w → (Code.loop c).wp P (XRel I G S.nt Q) a w := by
      intro n a w hJ
      intro b k cs
      have inner : ∀ n a w, J n a w → ∃ e a' w', XRel I G S.nt Q e a' w' ∧ Arrives P (lone (b.at a (.code c :: .inLoop c :: k)) cs w) b k cs e a' w' := by
        intro n
        induction n using Nat.strongRecOn with
        | _ n ihn =>
          intro a w ⟨S', C', hI, hnt, hR'⟩
          obtain ⟨e, a₁, w₁, ⟨S1, C1, hnt1, hR1, hq⟩, harr⟩ := ih S' _ G C' a w (by rw [hnt]; exact hok) (hround S' n hI hnt) hR' b (.inLoop c :: k) cs
          cases e with
          | normal =>
            obtain ⟨S3, m, hm, hwk, hI3⟩ := hq
            obtain ⟨C3, hR3⟩ := hwk.2 I G C1 a₁ w₁ hR1
            obtain ⟨e₂, a₂, w₂, hq₂, harr₂⟩ := ihn m hm a₁ w₁ ⟨S3, C3, hI3, by rw [hwk.1, hnt1, hnt], hR3⟩
            exact ⟨e₂, a₂, w₂, hq₂, .of_steps (Steps.trans harr (.one step_inLoop)) harr₂⟩
          | exit id => exact ⟨_, a₁, w₁, ⟨S1, C1, hnt1.trans hnt, hR1, hq⟩, .pass (x := .inLoop c) rfl (fun _ _ => .inl (by simp)) harr⟩
          | ret => exact ⟨_, a₁, w₁, ⟨S1, C1, hnt1.trans hnt, hR1, hq⟩, .pass (x := .inLoop c) rfl (fun _ _ => .inl (by simp)) harr⟩
          | goto l => exact ⟨_, a₁, w₁, ⟨S1, C1, hnt1.trans hnt, hR1, hq⟩, .pass (x := .inLoop c) rfl (fun _ _ => .inl (by simp)) harr⟩
          | panic ch => exact hq.elim
          | outgrown => exact hq.elim
      obtain ⟨e, a', w', hq, harr⟩ := inner n a w hJ
      exact ⟨e, a', w', hq, .of_steps (.one step_loop) harr⟩
    exact key n0 a w ⟨S0, C0, hi0, hw0.1, hR0⟩
  | exit id => intro S Q G C a w hok h hR; exact wp_exit ⟨S, C, rfl, hR, h⟩
  | ret => intro S Q G C a w hok h hR; exact wp_ret ⟨S, C, rfl, hR, h⟩
  | rangeFunc f ps x y ihx ihy => intro S Q G C a w hok h hR; exact h.elim
  | scope b ih => intro S Q G C a w hok h hR; exact h.elim
  | goto l => intro S Q G C a w hok h hR; exact h.elim
  | refuse why => intro S Q G C a w hok h hR; exact h.elim

/-- The results of a call. -/
def resD (P : Program) (S : AS) : List ResultVar → Option (List D)
  | [] => some []
  | .tmp t :: rest => match resD P S rest with
    | some ds => some (S.env t :: ds)
    | none => none
  | .cell t ty :: rest => match S.env t, resD P S rest with
    | .ptr id off, some ds => match S.heap id with
      | some (.box _ cs) => match loadD P ty (cs.drop off) with
        | some d => some (d :: ds)
        | none => none
      | _ => none
    | _, _ => none
def mkRes : List D → D
  | [d] => d
  | ds => .tup ds
/-- What a call returns. -/
def aret (P : Program) (fn : Func) (S : AS) (r : D) : Prop := ∃ ds ds' e, resD P S fn.results.toList = some ds ∧ purDs S.heap ds = some (ds', e) ∧ mkRes ds' = r
end
end Go.Proofs.YtipdmcpmedmicaaDoor
