/- Texts of one proof, put together (M12, N2, LN2, M13, M14, LN3, LN). No condition but those that each theorem states. -/
import Derived.Test.YtnjjdbljoligdaaGreatDoorJ6
set_option linter.unusedSimpArgs false
set_option linter.unusedVariables false
namespace Go.Proofs.YtnjjdbljoligdaaGreatDoor
set_option maxRecDepth 100000
theorem iter_fold3 {D C α : Type} {step : D × Int × C → Option (Nx (D × Int × C) (D × C))} (cs : List α) (hn : cs.length ≤ 1000000) (F : D × C → α → D × C) (Inv : Nat → D × C → Prop) (a0 : D × C) (h0 : Inv 0 a0)
    (hgo : ∀ (i : Nat) (h : i < cs.length) (a : D × C), Inv i a → step (a.1, (i : Int), a.2) = some (.go ((F a cs[i]).1, (i : Int) + 1, (F a cs[i]).2)) ∧ Inv (i + 1) (F a cs[i])) (hend : ∀ a, Inv cs.length a → step (a.1, (cs.length : Int), a.2) = some (.out a)) : iter step (a0.1, 0, a0.2) = some (cs.foldl F a0) ∧ Inv cs.length (cs.foldl F a0) := by
  have key : iter step (a0.1, 0, a0.2) = some (cs.foldl F a0) := by
    refine iter_of (fun x e => ∃ i : Nat, x.2.1 = (i : Int) ∧ i ≤ cs.length ∧ Inv i (x.1, x.2.2) ∧ e = (cs.drop i).foldl F (x.1, x.2.2)) (fun x => cs.length - x.2.1.toNat) ?_ (x := (a0.1, 0, a0.2)) ⟨0, rfl, Nat.zero_le _, h0, by simp⟩ (by show cs.length - _ < _; omega)
    rintro ⟨d, z, c⟩ e ⟨i, hz, hi, hI, rfl⟩
    dsimp only at hz hI ⊢
    subst hz
    by_cases h : i < cs.length
    · left
      obtain ⟨h1, h2⟩ := hgo i h (d, c) hI
      refine ⟨_, h1, ⟨i + 1, by simp, by omega, h2, ?_⟩, by simp; omega⟩
      rw [List.drop_eq_getElem_cons h, List.foldl_cons]
    · right
      obtain rfl : i = cs.length := by omega
      have := hend (d, c) hI
      rw [this]; simp
  refine ⟨key, ?_⟩
  have : ∀ (i : Nat) (a : D × C), i ≤ cs.length → Inv i a → Inv cs.length ((cs.drop i).foldl F a) := by
    intro i
    induction hk : cs.length - i generalizing i with
    | zero => intro a hi hI; obtain rfl : i = cs.length := by omega
              simpa using hI
    | succ k ih =>
      intro a hi hI
      have h : i < cs.length := by omega
      rw [List.drop_eq_getElem_cons h, List.foldl_cons]
      exact ih (i + 1) (by omega) _ (by omega) (hgo i h a hI).2
  simpa using this 0 a0 (Nat.zero_le _) h0
def cutF (r : Int) (d : Bool) (x : T_api_Line) : T_api_Cut × T_api_Diag × Bool := (g_ref44_cut x ⟨[], r, d, []⟩).getD (⟨0, [], 0, ⟨0, 0⟩, ⟨0, 0⟩⟩, ⟨0, 0, 0⟩, false)
theorem cutF_eq {x : T_api_Line} (hx : x.Fields.length ≤ 1000 ∧ ∀ f ∈ x.Fields, f.Text.length ≤ 1000) {r : Int} (hr : 0 ≤ r ∧ r ≤ 255) (t t' : List UInt8) (d : Bool) (cs cs' : List T_api_Cut) : g_ref44_cut x ⟨t, r, d, cs⟩ = some (cutF r d x) ∧ g_edl_cut x ⟨t', r, d, cs'⟩ = some (cutF r d x) ∧ ((cutF r d x).2.2 = true → (cutF r d x).2.1.Line = x.Number ∧ (cutF r d x).2.1.Code ≠ 0) := by
  obtain ⟨c, g, b, h1, h2, h3⟩ := cut_both hx hr [] t' d [] cs'
  obtain ⟨c2, g2, b2, k1, k2, k3⟩ := cut_both hx hr t t' d cs cs'
  have e : cutF r d x = (c, g, b) := by unfold cutF; rw [h1]; rfl
  rw [k2] at h2
  rw [e]
  exact ⟨by rw [k1, h2], by rw [k2, h2], h3⟩
def FP (r : Int) (d : Bool) (a : List T_api_Diag × List T_api_Cut) (x : T_api_Line) : List T_api_Diag × List T_api_Cut :=
  if (cutF r d x).2.2 = true then (if a.1.length < 50 then a.1 ++ [(cutF r d x).2.1] else a.1, a.2) else (a.1, a.2 ++ [(cutF r d x).1])
def FQ (r : Int) (d : Bool) (a : List T_api_Diag × List T_api_Cut) (x : T_api_Line) : List T_api_Diag × List T_api_Cut :=
  (if (cutF r d x).2.2 = true ∧ a.1.length < 50 then a.1 ++ [(cutF r d x).2.1] else a.1, a.2 ++ [(cutF r d x).1])
def lnOK (x : T_api_Line) : Prop := x.Fields.length ≤ 1000 ∧ ∀ f ∈ x.Fields, f.Text.length ≤ 1000
theorem prog_cuts {t : List UInt8} {r : Int} {d : Bool} {ds : List T_api_Diag} (hr : 0 ≤ r ∧ r ≤ 255) (z : List T_api_Line) (hz : z.length ≤ 300000) (hx : ∀ x ∈ z, lnOK x) : iter (g_edl_Parse_s1 (⟨t, r, d, []⟩, ds) z) ([], 0, []) = some (z.foldl (FP r d) ([], [])) ∧ (z.foldl (FP r d) ([], [])).1.length ≤ 50 ∧ (z.foldl (FP r d) ([], [])).2.length ≤ z.length := by
  refine iter_fold3 (step := g_edl_Parse_s1 (⟨t, r, d, []⟩, ds) z) z (by omega) (FP r d) (fun i a => a.1.length ≤ 50 ∧ a.2.length ≤ i) ([], []) (by simp) (fun i h a ⟨h1, h2⟩ => ?_) (fun a _ => ?_)
  · have e := (cutF_eq (hx _ (List.getElem_mem h)) hr t t d [] a.2).2.1
    unfold g_edl_Parse_s1
    dsimp only
    rw [if_pos (by simpa using h), atI_nat h, wr64 (x := (i : Int) + 1) (by omega)]
    simp only [Option.bind_some, e]
    unfold FP
    cases hb : (cutF r d z[i]).2.2
    · simp only [Bool.false_eq_true, if_false]
      rw [if_pos (by omega)]
      exact ⟨rfl, h1, by simp; omega⟩
    · simp only [if_true]
      by_cases hl : a.1.length < 50
      · rw [if_pos (by simp; omega), if_pos (by omega), if_pos hl]
        exact ⟨rfl, by simp; omega, by omega⟩
      · rw [if_neg (by simp; omega), if_neg hl]
        exact ⟨rfl, h1, by omega⟩
  · unfold g_edl_Parse_s1
    dsimp only
    rw [if_neg (by simp)]
theorem ref_cuts {t : List UInt8} {r : Int} {d : Bool} {g : T_api_Diag} {b : Bool} (hr : 0 ≤ r ∧ r ≤ 255) (z : List T_api_Line) (hz : z.length ≤ 300000) (hx : ∀ x ∈ z, lnOK x) : iter (g_ref44_Parse_s1 (⟨t, r, d, []⟩, g, b) z) ([], 0, []) = some (z.foldl (FQ r d) ([], [])) ∧ (z.foldl (FQ r d) ([], [])).1.length ≤ 50 ∧ (z.foldl (FQ r d) ([], [])).2.length ≤ z.length := by
  refine iter_fold3 (step := g_ref44_Parse_s1 (⟨t, r, d, []⟩, g, b) z) z (by omega) (FQ r d) (fun i a => a.1.length ≤ 50 ∧ a.2.length ≤ i) ([], []) (by simp) (fun i h a ⟨h1, h2⟩ => ?_) (fun a _ => ?_)
  · have e := (cutF_eq (hx _ (List.getElem_mem h)) hr t t d a.2 []).1
    unfold g_ref44_Parse_s1
    dsimp only
    rw [if_pos (by simpa using h), atI_nat h, wr64 (x := (i : Int) + 1) (by omega)]
    simp only [Option.bind_some, e]
    unfold FQ
    cases hb : (cutF r d z[i]).2.2
    · simp only [Bool.false_eq_true, if_false, Option.bind_some, false_and]
      rw [if_pos (by omega)]
      exact ⟨rfl, h1, by simp; omega⟩
    · simp only [if_true, Option.bind_some, true_and]
      by_cases hl : a.1.length < 50
      · rw [if_pos (by simp; omega), if_pos (by omega), if_pos (by omega), if_pos hl]
        exact ⟨rfl, by simp; omega, by simp; omega⟩
      · rw [if_neg (by simp; omega), if_pos (by omega), if_neg hl]
        exact ⟨rfl, h1, by simp; omega⟩
  · unfold g_ref44_Parse_s1
    dsimp only
    rw [if_neg (by simp)]
theorem folds (r : Int) (d : Bool) : ∀ (xs : List T_api_Line) (ds : List T_api_Diag) (c c' : List T_api_Cut), (xs.foldl (FP r d) (ds, c)).1 = (xs.foldl (FQ r d) (ds, c')).1 ∧ ((xs.foldl (FP r d) (ds, c)).1 = [] → ds = [] ∧ (c = c' → (xs.foldl (FP r d) (ds, c)).2 = (xs.foldl (FQ r d) (ds, c')).2))
  | [], ds, c, c' => ⟨rfl, fun h => ⟨h, fun h => h⟩⟩
  | x :: xs, ds, c, c' => by
    simp only [List.foldl_cons]
    have e1 : (FP r d (ds, c) x).1 = (FQ r d (ds, c') x).1 := by
      unfold FP FQ
      cases (cutF r d x).2.2 <;> simp
    have hp : FP r d (ds, c) x = ((FP r d (ds, c) x).1, (FP r d (ds, c) x).2) := rfl
    have hq : FQ r d (ds, c') x = ((FP r d (ds, c) x).1, (FQ r d (ds, c') x).2) := by rw [e1]
    rw [hp, hq]
    obtain ⟨k1, k2⟩ := folds r d xs (FP r d (ds, c) x).1 (FP r d (ds, c) x).2 (FQ r d (ds, c') x).2
    refine ⟨k1, fun h => ?_⟩
    obtain ⟨k3, k4⟩ := k2 h
    have h1 : ds = [] ∧ (cutF r d x).2.2 = false := by
      unfold FP at k3
      cases hb : (cutF r d x).2.2
      · rw [hb] at k3; simpa using k3
      · rw [hb] at k3
        simp only [if_true] at k3
        split at k3
        · simp at k3
        · rename_i hl; rw [k3] at hl; simp at hl
    refine ⟨h1.1, fun hc => k4 ?_⟩
    unfold FP FQ
    rw [h1.2, hc]
    simp
def dgOK (n : Nat) (ds : List T_api_Diag) : Prop := ds.Pairwise (fun a b => a.Line < b.Line) ∧ ∀ x ∈ ds, 1 ≤ x.Line ∧ x.Line ≤ (n : Int) ∧ x.Code ≠ 0
def lnsOK (n : Nat) (ls : List T_api_Line) : Prop := ls.Pairwise (fun a b => a.Number < b.Number) ∧ ∀ x ∈ ls, 1 ≤ x.Number ∧ x.Number ≤ (n : Int) ∧ x.Fields ≠ []
theorem dgOK_snoc {n m : Nat} {ds : List T_api_Diag} {g : T_api_Diag} (h : dgOK n ds) (hn : n ≤ m) (h1 : (n : Int) < g.Line) (h2 : g.Line ≤ (m : Int)) (h3 : g.Code ≠ 0) : dgOK m (ds ++ [g]) := by
  refine ⟨?_, fun x hx => ?_⟩
  · rw [List.pairwise_append]
    refine ⟨h.1, by simp, fun a ha b hb => ?_⟩
    simp at hb; subst hb
    have := (h.2 a ha).2.1
    omega
  · rcases List.mem_append.1 hx with hx | hx
    · have := h.2 x hx; exact ⟨this.1, by omega, this.2.2⟩
    · simp at hx; subst hx; exact ⟨by omega, h2, h3⟩
theorem lnsOK_snoc {n m : Nat} {ls : List T_api_Line} {g : T_api_Line} (h : lnsOK n ls) (hn : n ≤ m) (h1 : (n : Int) < g.Number) (h2 : g.Number ≤ (m : Int)) (h3 : g.Fields ≠ []) : lnsOK m (ls ++ [g]) := by
  refine ⟨?_, fun x hx => ?_⟩
  · rw [List.pairwise_append]
    refine ⟨h.1, by simp, fun a ha b hb => ?_⟩
    simp at hb; subst hb
    have := (h.2 a ha).2.1
    omega
  · rcases List.mem_append.1 hx with hx | hx
    · have := h.2 x hx; exact ⟨this.1, by omega, this.2.2⟩
    · simp at hx; subst hx; exact ⟨by omega, h2, h3⟩
theorem dgOK_mono {n m : Nat} {ds : List T_api_Diag} (h : dgOK n ds) (hn : n ≤ m) : dgOK m ds := ⟨h.1, fun x hx => ⟨(h.2 x hx).1, by have := (h.2 x hx).2.1; omega, (h.2 x hx).2.2⟩⟩
theorem lnsOK_mono {n m : Nat} {ls : List T_api_Line} (h : lnsOK n ls) (hn : n ≤ m) : lnsOK m ls := ⟨h.1, fun x hx => ⟨(h.2 x hx).1, by have := (h.2 x hx).2.1; omega, (h.2 x hx).2.2⟩⟩
theorem lr_num {n : Nat} {y : List UInt8} : (∀ g, lr n y = some (.inl g) → g.Line = ((n + 1 : Nat) : Int) ∧ g.Code ≠ 0) ∧ (∀ l, lr n y = some (.inr l) → l.Number = ((n + 1 : Nat) : Int) ∧ l.Fields ≠ []) := by
  unfold lr
  split
  · refine ⟨fun g h => ?_, fun l h => (by simp at h)⟩
    simp only [Option.some.injEq, Sum.inl.injEq] at h
    subst h
    exact ⟨rfl, show (9 : Int) ≠ 0 by decide⟩
  · split
    · refine ⟨fun g h => ?_, fun l h => (by simp at h)⟩
      simp only [Option.some.injEq, Sum.inl.injEq] at h
      subst h
      exact ⟨rfl, show (4 : Int) ≠ 0 by decide⟩
    · exact ⟨fun g h => (nomatch h), fun l h => (nomatch h)⟩
    · refine ⟨fun g h => (by simp at h), fun l h => ?_⟩
      simp only [Option.some.injEq, Sum.inr.injEq] at h
      subst h
      exact ⟨rfl, by simp⟩
theorem allR_good : ∀ (ys : List (List UInt8)) (n : Nat) (p : List T_api_Line × List T_api_Diag), lnsOK n p.1 → dgOK n p.2 → lnsOK (n + ys.length) (allR n ys p).1 ∧ dgOK (n + ys.length) (allR n ys p).2
  | [], n, p, h1, h2 => ⟨h1, h2⟩
  | y :: ys, n, p, h1, h2 => by
    have key : lnsOK (n + 1) (accL p (lr n y)).1 ∧ dgOK (n + 1) (accL p (lr n y)).2 := by
      obtain ⟨k1, k2⟩ := lr_num (n := n) (y := y)
      cases hl : lr n y with
      | none => exact ⟨lnsOK_mono h1 (by omega), dgOK_mono h2 (by omega)⟩
      | some v =>
        cases v with
        | inl g => exact ⟨lnsOK_mono h1 (by omega), dgOK_snoc h2 (by omega) (by rw [(k1 g hl).1]; omega) (by rw [(k1 g hl).1]; omega) (k1 g hl).2⟩
        | inr l => exact ⟨lnsOK_snoc h1 (by omega) (by rw [(k2 l hl).1]; omega) (by rw [(k2 l hl).1]; omega) (k2 l hl).2, dgOK_mono h2 (by omega)⟩
    have := allR_good ys (n + 1) _ key.1 key.2
    simp only [List.length_cons]
    rw [show n + (ys.length + 1) = n + 1 + ys.length by omega]
    exact this
theorem dgOK_take {n : Nat} {ds : List T_api_Diag} (h : dgOK n ds) (k : Nat) : dgOK n (ds.take k) := ⟨h.1.sublist (List.take_sublist _ _), fun x hx => h.2 x (List.mem_of_mem_take hx)⟩
theorem splitS_good (src : List UInt8) : lnsOK (spL src).length (splitS src).1 ∧ dgOK (spL src).length (splitS src).2 := by
  have hl := (spL_len src).1
  unfold splitS
  split
  · refine ⟨⟨by simp, by simp⟩, ⟨by simp, fun x hx => ?_⟩⟩
    simp at hx; subst hx
    exact ⟨by decide, by dsimp only; omega, by decide⟩
  · have := allR_good (spL src) 0 ([], []) ⟨by simp, by simp⟩ ⟨by simp, by simp⟩
    rw [Nat.zero_add] at this
    exact ⟨this.1, dgOK_take this.2 50⟩
theorem fold_good {r : Int} (hr : 0 ≤ r ∧ r ≤ 255) (d : Bool) (n : Nat) : ∀ (xs : List T_api_Line) (ds : List T_api_Diag) (c : List T_api_Cut), lnsOK n xs → (∀ x ∈ xs, lnOK x) → dgOK n ds → (∀ g ∈ ds, ∀ x ∈ xs, g.Line < x.Number) → dgOK n (xs.foldl (FP r d) (ds, c)).1
  | [], ds, c, _, _, h, _ => h
  | x :: xs, ds, c, hx, hk, h, hb => by
    simp only [List.foldl_cons]
    have hxs : lnsOK n xs := ⟨(List.pairwise_cons.1 hx.1).2, fun y hy => hx.2 y (by simp [hy])⟩
    have hlt := (List.pairwise_cons.1 hx.1).1
    have hcut := (cutF_eq (hk x (by simp)) hr [] [] d [] []).2.2
    have hx0 := hx.2 x (by simp)
    unfold FP
    cases hbad : (cutF r d x).2.2
    · simp only [Bool.false_eq_true, if_false]
      exact fold_good hr d n xs ds _ hxs (fun y hy => hk y (by simp [hy])) h (fun g hg y hy => hb g hg y (by simp [hy]))
    · simp only [if_true]
      obtain ⟨c1, c2⟩ := hcut hbad
      split
      · refine fold_good hr d n xs _ _ hxs (fun y hy => hk y (by simp [hy])) ⟨?_, fun g hg => ?_⟩ (fun g hg y hy => ?_)
        · rw [List.pairwise_append]
          refine ⟨h.1, by simp, fun a ha b hb2 => ?_⟩
          simp at hb2; subst hb2
          rw [c1]; exact hb a ha x (by simp)
        · rcases List.mem_append.1 hg with hg | hg
          · exact h.2 g hg
          · simp at hg; subst hg; rw [c1]; exact ⟨hx0.1, hx0.2.1, c2⟩
        · rcases List.mem_append.1 hg with hg | hg
          · exact hb g hg y (by simp [hy])
          · simp at hg; subst hg; rw [c1]; exact hlt y hy
      · exact fold_good hr d n xs _ _ hxs (fun y hy => hk y (by simp [hy])) h (fun g hg y hy => hb g hg y (by simp [hy]))
theorem Parse_both (src : List UInt8) : ∃ t r d cs ds, g_edl_Parse src = some (⟨t, r, d, cs⟩, ds) ∧ g_ref44_Parse src = some (⟨t, r, d, cs⟩, ds) ∧ (0 ≤ r ∧ r ≤ 255) ∧ t.length ≤ 1000 ∧ cs.length ≤ 262145 ∧ (ds = [] → chkS t r d cs = 0) ∧ (ds ≠ [] → cs = []) ∧ ds.length ≤ 50 ∧ dgOK (spL src).length ds := by
  have hsp := (spL_len src).1
  have one : ∀ c : Int, c ≠ 0 → dgOK (spL src).length [⟨1, 1, c⟩] := fun c hc => ⟨by simp, fun x hx => by simp at hx; subst hx; exact ⟨by dsimp only; omega, by dsimp only; omega, hc⟩⟩
  unfold g_edl_Parse g_ref44_Parse
  rw [lines_Split_eq, Split_n_eq]
  have hsm := splitS_small src
  have htx := splitS_texts src
  have hgd := splitS_good src
  generalize splitS src = p at *
  obtain ⟨ls, ds⟩ := p
  dsimp only at hsm htx hgd
  simp only [Option.bind_some]
  cases ds with
  | cons g gs =>
    have e1 : decide ((0 : Int) < ((g :: gs).length : Int)) = true := by simp only [List.length_cons, decide_eq_true_eq]; omega
    simp only [e1, if_true, List.isEmpty_cons, Bool.false_eq_true, if_false]
    exact ⟨_, _, _, _, _, rfl, rfl, by omega, by simp, by simp, fun h => (nomatch h), fun _ => rfl, hsm.2.1, hgd.2⟩
  | nil =>
    have e1 : decide ((0 : Int) < (([] : List T_api_Diag).length : Int)) = false := rfl
    simp only [e1, List.isEmpty_nil, Bool.false_eq_true, if_false, if_true]
    cases ls with
    | nil =>
      have e2 : ((([] : List T_api_Line).length : Int) == 0) = true := rfl
      simp only [e2, if_true]
      exact ⟨_, _, _, _, _, rfl, rfl, by omega, by simp, by simp, fun h => (nomatch h), fun _ => rfl, by simp, one 8 (by decide)⟩
    | cons x xs =>
      have a0 : atI (x :: xs) 0 = some x := rfl
      have hx : lnOK x := ⟨hsm.2.2 x (by simp), htx x (by simp)⟩
      have hxs : ∀ y ∈ xs, lnOK y := fun y hy => ⟨hsm.2.2 y (by simp [hy]), htx y (by simp [hy])⟩
      have hlx : xs.length ≤ 262145 := by have := hsm.1; simp at this; omega
      have e2 : (((x :: xs).length : Int) == 0) = false := by rw [beq_eq_false_iff_ne, List.length_cons]; omega
      simp only [e2, Bool.false_eq_true, if_false, a0, Option.bind_some]
      obtain ⟨t, r, d, g, b, h1, h2, h3, h4, h5⟩ := head_both hx (hgd.1.2 x (by simp)).2.2
      rw [h1, h2]
      simp only [Option.bind_some]
      cases b with
      | true =>
        obtain ⟨k1, k2⟩ := h5 rfl
        simp only [if_true, List.isEmpty_cons, Bool.false_eq_true, if_false]
        have hx0 := hgd.1.2 x (by simp)
        exact ⟨_, _, _, _, _, rfl, rfl, by omega, by simp, by simp, fun h => (nomatch h), fun _ => rfl, by simp, ⟨by simp, fun y hy => by simp at hy; subst hy; rw [k1]; exact ⟨hx0.1, hx0.2.1, k2⟩⟩⟩
      | false =>
        simp only [Bool.false_eq_true, if_false, List.isEmpty_nil, if_true]
        have hsub : subL (x :: xs) 1 = some xs := by
          unfold subL
          rw [if_pos ⟨by omega, by simp⟩]
          simp
        rw [hsub]
        simp only [Option.bind_some]
        obtain ⟨p1, p2, p3⟩ := prog_cuts (t := t) (d := d) (ds := []) h3 xs (by omega) hxs
        obtain ⟨q1, q2, q3⟩ := ref_cuts (t := t) (d := d) (g := g) (b := false) h3 xs (by omega) hxs
        rw [p1, q1]
        simp only [Option.bind_some]
        obtain ⟨f1, f2⟩ := folds r d xs [] [] []
        have hg := fold_good h3 d (spL src).length xs [] [] ⟨(List.pairwise_cons.1 hgd.1.1).2, fun y hy => hgd.1.2 y (by simp [hy])⟩ hxs ⟨by simp, by simp⟩ (by simp)
        rw [← f1] at q2 ⊢
        generalize hP : xs.foldl (FP r d) ([], []) = P at *
        generalize hQ : xs.foldl (FQ r d) ([], []) = Q at *
        cases hd : P.1 with
        | cons a l =>
          have e3 : decide ((0 : Int) < ((a :: l).length : Int)) = true := by simp only [List.length_cons, decide_eq_true_eq]; omega
          have f3 : Q.1 = a :: l := by rw [← f1]; exact hd
          simp only [e3, f3, if_true]
          refine ⟨_, _, _, _, _, rfl, rfl, by omega, by simp, by simp, fun h => (nomatch h), fun _ => rfl, ?_, ?_⟩
          · rw [← hd]; exact p2
          · rw [← hd]; exact hg
        | nil =>
          have hc := (f2 hd).2 rfl
          have f3 : Q.1 = [] := by rw [← f1]; exact hd
          simp only [f3, e1, Bool.false_eq_true, if_false]
          rw [prog_Check _ h3 (by dsimp only; omega), ref_Check _ h3 (by dsimp only; omega), ← hc]
          simp only [Option.bind_some]
          by_cases hk : chkS t r d P.2 = 0
          · rw [if_neg (by simpa using hk), if_neg (by simpa using hk)]
            exact ⟨_, _, _, _, _, rfl, rfl, h3, h4, by omega, fun _ => hk, fun h => absurd rfl h, by simp, ⟨by simp, by simp⟩⟩
          · rw [if_pos (by simpa using hk), if_pos (by simpa using hk)]
            exact ⟨_, _, _, _, _, rfl, rfl, by omega, by simp, by simp, fun h => (nomatch h), fun _ => rfl, by simp, one _ hk⟩
end Go.Proofs.YtnjjdbljoligdaaGreatDoor
namespace Go.Proofs.YtnjjdbljoligdaaGreatDoor
set_option maxRecDepth 100000
theorem same_loop (a b : TRL) (h : a.Cuts = b.Cuts) (hn : a.Cuts.length ≤ 1000000) : iter (g_ref44_Same_s1 a b) 0 = some (.inr ()) := by
  refine iter_idx a.Cuts.length (by omega) (fun _ => Sum.inr ()) (fun i hi => .inl ⟨?_, rfl⟩) ?_
  · unfold g_ref44_Same_s1
    rw [if_pos (by simpa using hi), ← h, atI_nat hi, wr64 (by omega)]
    simp
  · unfold g_ref44_Same_s1
    rw [if_neg (by simp)]
theorem same_self (l : TRL) (hn : l.Cuts.length ≤ 1000000) : g_ref44_Same l l = some true := by
  unfold g_ref44_Same
  rw [same_loop l l rfl hn]
  simp
theorem spL_count : ∀ s : List UInt8, (spL s).length = 1 + s.countP (fun b => b.toNat == 10)
  | [] => rfl
  | b :: t => by
    have ih := spL_count t
    simp only [spL]
    by_cases h : b.toNat = 10
    · rw [if_pos h, List.length_cons, ih, List.countP_cons_of_pos (by simpa using h)]
      omega
    · rw [if_neg h, List.countP_cons_of_neg (by simpa using h), ← ih]
      cases hs : spL t with
      | nil => rw [hs] at ih; simp at ih; omega
      | cons a r => rfl
theorem count_loop (src : List UInt8) (hl : src.length ≤ 100000) : iter (g_law44_EdlReads_s1 src) (1, 0) = some (((spL src).length : Nat) : Int) := by
  rw [spL_count]
  refine iter_of (fun x e => ∃ i : Nat, x = (((1 + (src.take i).countP (fun b => b.toNat == 10) : Nat) : Int), (i : Int)) ∧ i ≤ src.length ∧ e = ((1 + src.countP (fun b => b.toNat == 10) : Nat) : Int)) (fun x => src.length - x.2.toNat) ?_ (x := (1, 0)) ⟨0, by simp, Nat.zero_le _, rfl⟩ (by show src.length - _ < _; omega)
  rintro x e ⟨i, rfl, hi, rfl⟩
  unfold g_law44_EdlReads_s1
  dsimp only
  by_cases h : i < src.length
  · left
    have hc : (src.take (i + 1)).countP (fun b => b.toNat == 10) = (src.take i).countP (fun b => b.toNat == 10) + if src[i].toNat = 10 then 1 else 0 := by
      rw [← List.take_append_getElem h, List.countP_append]
      congr 1
      by_cases hb : src[i].toNat = 10
      · simp [hb]
      · simp [hb]
    have hle : (src.take i).countP (fun b => b.toNat == 10) ≤ src.length := Nat.le_trans List.countP_le_length (by simp; omega)
    rw [if_pos (by simpa using h), atI_nat h, wr64 (x := (i : Int) + 1) (by omega), wr64 (x := ((1 + (src.take i).countP (fun b => b.toNat == 10) : Nat) : Int) + 1) (by omega)]
    simp only [Option.bind_some]
    by_cases hb : src[i].toNat = 10
    · rw [if_pos (by simp [hb])]
      rw [if_pos hb] at hc
      refine ⟨_, rfl, ⟨i + 1, ?_, by omega, by first | rfl | trivial⟩, by simp; omega⟩
      rw [hc]
      congr 1
    · rw [if_neg (by rw [beq_iff_eq]; omega)]
      rw [if_neg hb] at hc
      refine ⟨_, rfl, ⟨i + 1, ?_, by omega, by first | rfl | trivial⟩, by simp; omega⟩
      rw [hc]
      rfl
  · right
    obtain rfl : i = src.length := by omega
    rw [if_neg (by simp), List.take_length]
theorem reads_loop {l : T_edl_List} {ds : List T_api_Diag} {n : Nat} (h : dgOK n ds) (hl : ds.length ≤ 50) : iter (g_law44_EdlReads_s2 (l, ds) (n : Int)) 0 = some (.inr ()) := by
  refine iter_idx ds.length (by omega) (fun _ => Sum.inr ()) (fun i hi => .inl ⟨?_, rfl⟩) ?_
  · unfold g_law44_EdlReads_s2
    dsimp only
    obtain ⟨h1, h2, h3⟩ := h.2 _ (List.getElem_mem hi)
    rw [if_pos (by simpa using hi), atI_nat hi, wr64 (x := (i : Int) + 1) (by omega), wr64 (x := (i : Int) - 1) (by omega)]
    simp only [Option.bind_some]
    rw [if_neg (by simp; omega), if_neg (by simp; omega), if_neg (by simpa using h3)]
    cases i with
    | zero => simp
    | succ k =>
      have hk : k < ds.length := by omega
      have e : (((k + 1 : Nat) : Int) - 1) = (k : Int) := by omega
      have hp := List.pairwise_iff_getElem.1 h.1 k (k + 1) hk hi (by omega)
      rw [if_pos (by first | (simp; done) | (simp; omega)), e, atI_nat hk]
      simp only [Option.bind_some]
      rw [if_neg (by simp; omega)]
  · unfold g_law44_EdlReads_s2
    dsimp only
    rw [if_neg (by simp)]
theorem EdlReads_true (src : List UInt8) : g_law44_EdlReads src = some true := by
  unfold g_law44_EdlReads
  rw [awake44]
  simp only [Option.bind_some, if_true]
  by_cases hl : 6000 < (src.length : Int)
  · simp [hl]
  · simp only [hl, decide_false, Bool.false_eq_true, if_false]
    obtain ⟨t, r, d, cs, ds, h1, h2, h3, h4, h5, h6, h7, h8, h9⟩ := Parse_both src
    rw [h1]
    simp only [Option.bind_some]
    cases hd : ds with
    | nil =>
      have e : ((([] : List T_api_Diag).length : Int) == 0) = true := rfl
      simp only [e, if_true]
      rw [prog_Check _ h3 (by dsimp only; omega), h6 hd]
      rfl
    | cons a l =>
      have e : (((a :: l).length : Int) == 0) = false := by rw [beq_eq_false_iff_ne, List.length_cons]; omega
      simp only [e, Bool.false_eq_true, if_false]
      rw [count_loop src (by omega)]
      simp only [Option.bind_some]
      rw [← hd, reads_loop h9 h8]
      have hcs := h7 (by rw [hd]; simp)
      simp only [Option.bind_some]
      rw [if_pos (by simp; omega), hcs]
      rfl
theorem insU_mem {c : List UInt8} : ∀ {cs : List T_api_Cut}, (∃ x ∈ cs, x.Reel = c) → c ∈ reelS cs := by
  intro cs h
  unfold reelS
  have := (foldl_insU (cs.map T_api_Cut.Reel) [] (by simp)).2 c
  rw [List.foldl_map] at this
  rw [this]
  right
  obtain ⟨x, h1, h2⟩ := h
  exact List.mem_map.2 ⟨x, h1, h2⟩
theorem reelS_up (cs : List T_api_Cut) : (reelS cs).Pairwise (· < ·) := by
  have := (foldl_insU (cs.map T_api_Cut.Reel) [] (by simp)).1
  rw [List.foldl_map] at this
  exact this
theorem order_in (cs : List T_api_Cut) {c : T_api_Cut} (hc : c ∈ cs) (hn : (reelS cs).length ≤ 1000000) : iter (g_law44_EdlOrder_s2 (reelS cs) c) (false, 0) = some (.inr true) := by
  have hm := insU_mem ⟨c, hc, rfl⟩
  have hup := reelS_up cs
  generalize reelS cs = R at *
  refine iter_of (fun x e => ∃ i : Nat, x = ((R.take i).any (fun s => s == c.Reel), (i : Int)) ∧ i ≤ R.length ∧ e = .inr true) (fun x => R.length - x.2.toNat) ?_ (x := (false, 0)) ⟨0, by simp, Nat.zero_le _, rfl⟩ (by show R.length - _ < _; omega)
  rintro x e ⟨i, rfl, hi, rfl⟩
  unfold g_law44_EdlOrder_s2
  dsimp only
  by_cases h : i < R.length
  · left
    have hv : (if (R.take i).any (fun s => s == c.Reel) = true then some true else some (R[i] == c.Reel) : Option Bool) = some ((R.take (i + 1)).any (fun s => s == c.Reel)) := by
      rw [← List.take_append_getElem h, List.any_append]
      cases (R.take i).any (fun s => s == c.Reel) <;> simp
    rw [if_pos (by simpa using h), atI_nat h, wr64 (x := (i : Int) + 1) (by omega), wr64 (x := (i : Int) - 1) (by omega)]
    simp only [Option.bind_some, hv]
    cases i with
    | zero =>
      rw [if_neg (by simp)]
      exact ⟨_, rfl, ⟨1, rfl, by omega, by first | rfl | trivial⟩, by simp; omega⟩
    | succ k =>
      have hk : k < R.length := by omega
      have e : (((k + 1 : Nat) : Int) - 1) = (k : Int) := by omega
      have hp := List.pairwise_iff_getElem.1 hup k (k + 1) hk h (by omega)
      rw [if_pos (by first | (simp; done) | (simp; omega)), e, atI_nat hk]
      simp only [Option.bind_some, bl_eq, hp, decide_true, if_true]
      exact ⟨_, rfl, ⟨k + 2, rfl, by omega, by first | rfl | trivial⟩, by simp; omega⟩
  · right
    obtain rfl : i = R.length := by omega
    rw [if_neg (by simp), List.take_length]
    have : R.any (fun s => s == c.Reel) = true := List.any_eq_true.2 ⟨c.Reel, hm, by simp⟩
    rw [this]
theorem chkC_order {day : Int} : ∀ {cs : List T_api_Cut} {n o : Int}, chkC day n o cs = 0 → (∀ c ∈ cs, c.Record.In < c.Record.Out ∧ o ≤ c.Record.In ∧ n < c.Number) ∧ cs.Pairwise (fun a b => a.Record.Out ≤ b.Record.In ∧ a.Number < b.Number)
  | [], n, o, _ => ⟨by simp, by simp⟩
  | c :: cs, n, o, h => by
    have hok := chkC_ok h
    unfold chkC at h
    split at h
    · omega
    · split at h
      · omega
      · rename_i h2
        split at h
        · rename_i h3; exact absurd h h3
        · split at h
          · omega
          · rename_i h3 h4
            obtain ⟨k1, k2⟩ := chkC_order h
            have h5 : c.Record.In < c.Record.Out := by
              have h3 : cutE day c = 0 := by simpa using h3
              unfold cutE at h3
              split at h3
              · omega
              · split at h3
                · omega
                · omega
            refine ⟨fun x hx => ?_, ?_⟩
            · rcases List.mem_cons.1 hx with rfl | hx
              · exact ⟨h5, by omega, by omega⟩
              · have := k1 x hx; exact ⟨this.1, by omega, by omega⟩
            · rw [List.pairwise_cons]
              exact ⟨fun x hx => ⟨(k1 x hx).2.1, (k1 x hx).2.2⟩, k2⟩
theorem lenS_ge : ∀ (cs : List T_api_Cut) (n : Int), n ≤ cs.foldl (fun n c => if c.Record.Out > n then c.Record.Out else n) n ∧ ∀ c ∈ cs, c.Record.Out ≤ cs.foldl (fun n c => if c.Record.Out > n then c.Record.Out else n) n
  | [], n => ⟨Int.le_refl _, by simp⟩
  | c :: cs, n => by
    simp only [List.foldl_cons]
    obtain ⟨h1, h2⟩ := lenS_ge cs (if c.Record.Out > n then c.Record.Out else n)
    have hm : n ≤ (if c.Record.Out > n then c.Record.Out else n) ∧ c.Record.Out ≤ (if c.Record.Out > n then c.Record.Out else n) := by split <;> omega
    refine ⟨Int.le_trans hm.1 h1, fun x hx => ?_⟩
    rcases List.mem_cons.1 hx with rfl | hx
    · exact Int.le_trans hm.2 h1
    · exact h2 x hx
theorem lenS_last {day : Int} : ∀ (cs : List T_api_Cut) (n o : Int), chkC day n o cs = 0 → (h : cs ≠ []) → cs.foldl (fun n c => if c.Record.Out > n then c.Record.Out else n) o = (cs.getLast h).Record.Out
  | [c], n, o, hk, _ => by
    have := (chkC_order hk).1 c (by simp)
    simp only [List.foldl_cons, List.foldl_nil, List.getLast_singleton]
    rw [if_pos (by omega)]
  | c :: b :: cs, n, o, hk, _ => by
    have h1 := (chkC_order hk).1 c (by simp)
    rw [List.foldl_cons, if_pos (by omega), List.getLast_cons (by simp)]
    have hk2 : chkC day c.Number c.Record.Out (b :: cs) = 0 := by
      unfold chkC at hk
      split at hk
      · omega
      · split at hk
        · omega
        · split at hk
          · rename_i h3; exact absurd hk h3
          · split at hk
            · omega
            · exact hk
    exact lenS_last (b :: cs) c.Number c.Record.Out hk2 (by simp)
theorem EdlOrder_true (l : TRL) (hr : 0 ≤ l.Rate ∧ l.Rate ≤ 255) : g_law44_EdlOrder l = some true := by
  unfold g_law44_EdlOrder
  rw [awake44, small_eq]
  simp only [Option.bind_some, if_true, g_law44_Of]
  cases h : smB l
  · rfl
  · obtain ⟨h1, h2⟩ := smB_t h
    simp only [if_true]
    rw [prog_Check _ hr (by dsimp only; omega)]
    simp only [Option.bind_some]
    by_cases hk : chkS l.Title l.Rate l.Drop l.Cuts = 0
    · have hk1 : (chkS l.Title l.Rate l.Drop l.Cuts != 0) = false := by simpa using hk
      simp only [hk1, Bool.false_eq_true, if_false]
      obtain ⟨c1, c2, c3, c4, c5, c6⟩ := chkS_ok hk
      rw [prog_Reels _ (by dsimp only; omega), prog_Length _ (by dsimp only; omega)]
      simp only [Option.bind_some]
      obtain ⟨o1, o2⟩ := chkC_order c5
      have hge := (lenS_ge l.Cuts 0).2
      have hloop : iter (g_law44_EdlOrder_s1 ⟨l.Title, l.Rate, l.Drop, l.Cuts⟩ (reelS l.Cuts) (lenS l.Cuts)) 0 = some (.inr ()) := by
        refine iter_idx l.Cuts.length (by omega) (fun _ => Sum.inr ()) (fun i hi => .inl ⟨?_, rfl⟩) ?_
        · unfold g_law44_EdlOrder_s1
          dsimp only
          have hm := List.getElem_mem hi
          have q1 := o1 _ hm
          have q2 := hge _ hm
          rw [if_pos (by simpa using hi), atI_nat hi, wr64 (x := (i : Int) + 1) (by omega), wr64 (x := (i : Int) - 1) (by omega)]
          simp only [Option.bind_some]
          rw [if_neg (by simp; omega), if_neg (by unfold lenS; simp; omega)]
          have hv : (if decide ((0 : Int) < (i : Int)) = true then (atI l.Cuts ((i : Int) - 1)).bind fun y1046 => if decide (l.Cuts[i].Record.In < y1046.Record.Out) = true then some true else some (decide (l.Cuts[i].Number ≤ y1046.Number)) else some false : Option Bool) = some false := by
            cases i with
            | zero => rfl
            | succ k =>
              have hkk : k < l.Cuts.length := by omega
              have e : (((k + 1 : Nat) : Int) - 1) = (k : Int) := by omega
              have hp := List.pairwise_iff_getElem.1 o2 k (k + 1) hkk hi (by omega)
              rw [if_pos (by first | (simp; done) | (simp; omega)), e, atI_nat hkk]
              simp only [Option.bind_some]
              rw [if_neg (by simp; omega)]
              simp; omega
          rw [hv, order_in l.Cuts hm (by omega)]
          simp
        · unfold g_law44_EdlOrder_s1
          dsimp only
          rw [if_neg (by simp)]
      rw [hloop]
      simp only [Option.bind_some]
      by_cases hz : l.Cuts.length = 0
      · have : l.Cuts = [] := List.eq_nil_of_length_eq_zero hz
        simp [this, lenS]
      · have hne : l.Cuts ≠ [] := fun e => hz (by rw [e]; rfl)
        have hlast := lenS_last l.Cuts 0 0 c5 hne
        have e1 : ((l.Cuts.length : Int) == 0) = false := by rw [beq_eq_false_iff_ne]; omega
        have e2 : decide ((0 : Int) < (l.Cuts.length : Int)) = true := by simp; omega
        have e3 : ((l.Cuts.length : Int) - 1) = ((l.Cuts.length - 1 : Nat) : Int) := by omega
        simp only [e1, e2, Bool.false_eq_true, if_false, if_true]
        rw [wr64 (x := (l.Cuts.length : Int) - 1) (by omega), e3, atI_nat (by omega)]
        simp only [Option.bind_some]
        rw [List.getLast_eq_getElem] at hlast
        unfold lenS
        rw [hlast]
        simp
    · have hk1 : (chkS l.Title l.Rate l.Drop l.Cuts != 0) = true := by simpa using hk
      simp only [hk1, if_true]
end Go.Proofs.YtnjjdbljoligdaaGreatDoor
namespace Go.Proofs.YtnjjdbljoligdaaGreatDoor
set_option maxRecDepth 100000
theorem law_EdlOrder (l : TRL) : AFun Tryz.prog Env8 5 [l.d] (.bool true) := by
  refine AFun.sized (by kernel_rfl) fun hz => ?_
  exact a_law44_EdlOrder stabEnv8 (fun _ h => h.2.2.1) (fun _ h => h.2.1) (fun _ h => h.1) (fun _ h => h.2.2.2) (EdlOrder_true l (lst_rate hz))
theorem law_EdlReads (s : List UInt8) : AFun Tryz.prog Env8 9 [.str s] (.bool true) :=
  a_law44_EdlReads stabEnv8 (fun _ h => h.2.2.1) (fun _ h => h.2.1) (fun _ h => h.1) (fun _ h => h.2.2.2) (EdlReads_true s)
end Go.Proofs.YtnjjdbljoligdaaGreatDoor
namespace Go.Proofs.YtnjjdbljoligdaaGreatDoor
set_option maxRecDepth 100000
theorem spL_app : ∀ (x t : List UInt8), (∀ b ∈ x, b.toNat ≠ 10) → spL (x ++ 10 :: t) = x :: spL t
  | [], t, _ => by
    rw [List.nil_append]
    simp only [spL]
    rw [if_pos (by decide)]
  | b :: x, t, h => by
    have ih := spL_app x t (fun y hy => h y (by simp [hy]))
    rw [List.cons_append]
    simp only [spL]
    rw [if_neg (h b (by simp)), ih]
theorem wS_app : ∀ (w : List UInt8) (t : List UInt8), (∀ b ∈ w, wB b = true) → (t = [] ∨ t.head? = some 32) → wS (w ++ t) = .inl w.length
  | [], t, _, ht => by
    rcases ht with rfl | ht
    · rfl
    · cases t with
      | nil => simp at ht
      | cons b t => simp at ht; subst ht; simp [wS]
  | b :: w, t, hw, ht => by
    have hb := wB_facts (hw b (by simp))
    have ih := wS_app w t (fun x hx => hw x (by simp [hx])) ht
    simp only [List.cons_append, wS, ih, hw b (by simp), if_true, wSh, List.length_cons]
    rw [if_neg (by omega), Nat.add_comm]
theorem fS_word {w t : List UInt8} {p : Nat} (hw : plainW w) (ht : t = [] ∨ t.head? = some 32) : fS (w ++ t) p = (fS t (p + w.length)).cons ⟨w, ((p + 1 : Nat) : Int), false⟩ := by
  obtain ⟨h1, h2, h3⟩ := hw
  have hws := wS_app w t h2 ht
  cases w with
  | nil => exact absurd rfl h1
  | cons b w =>
    have hb := wB_facts (h2 b (by simp))
    have hb3 := h3 b (by simp)
    rw [List.cons_append] at hws ⊢
    rw [fS_cons, if_neg (by omega), if_neg hb3, if_neg (by omega), hws]
    simp only [List.length_cons, Nat.add_sub_cancel]
    rw [List.drop_left]
    congr 2
    rw [← List.cons_append, show w.length + 1 = (b :: w).length from rfl, List.take_left]
theorem fS_blank (t : List UInt8) (p : Nat) : fS (32 :: t) p = fS t (p + 1) := by rw [fS_cons, if_pos (by decide)]
theorem qS_back2 : ∀ (s t : List UInt8), s.all plB = true → (t = [] ∨ t.head? = some 32) → qS (s.flatMap quB ++ 34 :: t) = .ok s ((s.flatMap quB).length + 1)
  | [], t, _, ht => by
    rw [List.flatMap_nil, List.nil_append, qS_cons]
    have e1 : (34 : UInt8).toNat = 34 := by decide
    rw [if_pos e1]
    rcases ht with rfl | ht
    · simp
    · rw [ht]; simp
  | b :: s, t, h, ht => by
    simp only [List.all_cons, Bool.and_eq_true] at h
    rw [List.flatMap_cons, List.append_assoc, qS_quB b _ h.1, qS_back2 s t h.2 ht]
    simp only [QR.sh, List.length_append, List.cons_append, List.nil_append, QR.ok.injEq, true_and]
    omega
theorem fS_quote {s t : List UInt8} {p : Nat} (hs : s.all plB = true) (ht : t = [] ∨ t.head? = some 32) : ∃ q, fS (quS s ++ t) p = (fS t q).cons ⟨s, ((p + 1 : Nat) : Int), true⟩ := by
  unfold quS
  rw [List.cons_append, fS_cons, if_neg (by decide), if_neg (by decide), if_pos (by decide), List.append_assoc, List.cons_append, List.nil_append, qS_back2 s t hs ht]
  refine ⟨p + 1 + ((s.flatMap quB).length + 1), ?_⟩
  simp only
  congr 1
  rw [← List.drop_drop, List.drop_left]
  rfl
def fldsOf : List (List UInt8) → Nat → List T_api_Field
  | [], _ => []
  | w :: ws, p => ⟨w, ((p + 1 : Nat) : Int), false⟩ :: fldsOf ws (p + w.length + 1)
theorem fS_words : ∀ (ws : List (List UInt8)) (p : Nat), (∀ w ∈ ws, plainW w) → fS (Lib.join ws [32]) p = .ok (fldsOf ws p)
  | [], p, _ => by simp [Lib.join_nil, fS_nil, fldsOf]
  | w :: ws, p, h => by
    rw [Lib.join_cons]
    have ht : Lib.joinTail [32] ws = [] ∨ (Lib.joinTail [32] ws).head? = some 32 := by
      cases ws with
      | nil => left; rfl
      | cons v ws => right; simp [Lib.joinTail]
    rw [fS_word (h w (by simp)) ht]
    have hrest : fS (Lib.joinTail [32] ws) (p + w.length) = .ok (fldsOf ws (p + w.length + 1)) := by
      cases ws with
      | nil => simp [Lib.joinTail, fS_nil, fldsOf]
      | cons v ws =>
        have ih := fS_words (v :: ws) (p + w.length + 1) (fun x hx => h x (List.mem_cons_of_mem _ hx))
        have e : Lib.joinTail [32] (v :: ws) = 32 :: Lib.join (v :: ws) [32] := by rw [Lib.join_cons]; simp [Lib.joinTail]
        rw [e, fS_blank]
        exact ih
    rw [hrest]
    rfl
theorem join_no10 : ∀ (ws : List (List UInt8)), (∀ w ∈ ws, plainW w) → ∀ b ∈ Lib.join ws [32], b.toNat ≠ 10
  | [], _ => by simp [Lib.join_nil]
  | w :: ws, h => by
    rw [Lib.join_cons]
    intro b hb
    rcases List.mem_append.1 hb with hb | hb
    · exact plain_no10 (h w (by simp)) b hb
    · cases ws with
      | nil => simp [Lib.joinTail] at hb
      | cons v ws =>
        have e : Lib.joinTail [32] (v :: ws) = 32 :: Lib.join (v :: ws) [32] := by rw [Lib.join_cons]; simp [Lib.joinTail]
        rw [e] at hb
        rcases List.mem_cons.1 hb with rfl | hb
        · decide
        · exact join_no10 (v :: ws) (fun x hx => h x (List.mem_cons_of_mem _ hx)) b hb
theorem take_at {L : T_api_Line} {k : Nat} {f : T_api_Field} {q : Bool} (hl : L.Fields.length ≤ 1000) (hf : L.Fields[k]? = some f) (hq : f.Quoted = q) : gRS_take ⟨L, (k : Int), 0, 0⟩ q = some (f, true, ⟨L, ((k + 1 : Nat) : Int), 0, 0⟩) := by
  have hk : k < L.Fields.length := (List.getElem?_eq_some_iff.1 hf).1
  have hw := wr64 (x := (L.Fields.length : Int) - (k : Int)) (by omega)
  have hw2 := wr64 (x := (k : Int) + 1) (by omega)
  have hat : atI L.Fields (k : Int) = some f := by simp [atI, hf]
  unfold gRS_take gRS_Left
  simp only [bne_self_eq_false, Bool.false_eq_true, if_false, hw, Option.bind_some]
  rw [if_neg (by rw [beq_iff_eq]; omega), hat]
  simp only [Option.bind_some, hq, beq_self_eq_true, if_true, hw2]
  rfl
theorem word_at {L : T_api_Line} {k : Nat} {f : T_api_Field} (hl : L.Fields.length ≤ 1000) (hf : L.Fields[k]? = some f) (hq : f.Quoted = false) : gRS_Word ⟨L, (k : Int), 0, 0⟩ = some (f.Text, ⟨L, ((k + 1 : Nat) : Int), 0, 0⟩) := by
  unfold gRS_Word
  rw [take_at hl hf hq]; rfl
theorem quoted_at {L : T_api_Line} {k : Nat} {f : T_api_Field} (hl : L.Fields.length ≤ 1000) (hf : L.Fields[k]? = some f) (hq : f.Quoted = true) : gRS_Quoted ⟨L, (k : Int), 0, 0⟩ = some (f.Text, ⟨L, ((k + 1 : Nat) : Int), 0, 0⟩) := by
  unfold gRS_Quoted
  rw [take_at hl hf hq]; rfl
theorem name_at {L : T_api_Line} {k : Nat} {f : T_api_Field} (hl : L.Fields.length ≤ 1000) (hf : L.Fields[k]? = some f) (hq : f.Quoted = false) (hn : isNm f.Text = true) : gRS_Name ⟨L, (k : Int), 0, 0⟩ false = some (f.Text, ⟨L, ((k + 1 : Nat) : Int), 0, 0⟩) := by
  unfold gRS_Name
  rw [take_at hl hf hq]
  simp only [Option.bind_some, if_true, Bool.false_eq_true, if_false, ref07_Name_eq, hn]
theorem number_at {L : T_api_Line} {k : Nat} {f : T_api_Field} {n lo hi : Int} (hl : L.Fields.length ≤ 1000) (hf : L.Fields[k]? = some f) (hq : f.Quoted = false) (hn : g_ref07_Number f.Text lo hi = some (n, 0)) : gRS_Number ⟨L, (k : Int), 0, 0⟩ lo hi = some (n, ⟨L, ((k + 1 : Nat) : Int), 0, 0⟩) := by
  unfold gRS_Number
  rw [take_at hl hf hq]
  simp only [Option.bind_some, if_true, hn, bne_self_eq_false, Bool.false_eq_true, if_false]
theorem choice_at {L : T_api_Line} {k : Nat} {f : T_api_Field} {ws : List (List UInt8)} (hl : L.Fields.length ≤ 1000) (hf : L.Fields[k]? = some f) (hq : f.Quoted = false) (i : Nat) (hw : ws.length ≤ 1000) (hi : ws[i]? = some f.Text) (hb : ∀ j, j < i → ws[j]? ≠ some f.Text) : gRS_Choice ⟨L, (k : Int), 0, 0⟩ ws = some ((i : Int), ⟨L, ((k + 1 : Nat) : Int), 0, 0⟩) := by
  have hil := (List.getElem?_eq_some_iff.1 hi).1
  unfold gRS_Choice
  rw [take_at hl hf hq]
  simp only [Option.bind_some, if_true]
  have key : iter (gRS_Choice_s1 ws (f, true, ⟨L, ((k + 1 : Nat) : Int), 0, 0⟩)) 0 = some (.inl (i : Int)) := by
    refine iter_chain (fun j => (j : Int)) i (by omega) (fun j hj => ?_) ?_
    · have hjl : j < ws.length := by omega
      have hwr := wr64 (x := (j : Int) + 1) (by omega)
      simp only [gRS_Choice_s1, atI_nat hjl, Option.bind_some, hwr]
      rw [if_pos (by simpa using hjl), if_neg (fun e => hb j hj (by rw [List.getElem?_eq_getElem hjl]; simpa using e))]
      rfl
    · have e : ws[i] = f.Text := by
        have := List.getElem?_eq_getElem hil
        rw [hi] at this; injection this with this; exact this.symm
      simp only [gRS_Choice_s1, atI_nat hil, Option.bind_some]
      rw [if_pos (by simpa using hil), if_pos (by simp [e])]
  rw [key]
  rfl
theorem fail_at (s : TRS) : gRS_Fail s 0 = some s := rfl
theorem left_at {L : T_api_Line} {k : Nat} (hl : L.Fields.length ≤ 1000) (hk : k ≤ L.Fields.length) : gRS_Left ⟨L, (k : Int), 0, 0⟩ = some ((L.Fields.length : Int) - (k : Int), ⟨L, (k : Int), 0, 0⟩) := by
  unfold gRS_Left
  simp only [bne_self_eq_false, Bool.false_eq_true, if_false]
  rw [wr64 (by omega)]
theorem end_at {L : T_api_Line} (hl : L.Fields.length ≤ 1000) : gRS_End ⟨L, (L.Fields.length : Int), 0, 0⟩ = some (⟨0, 0, 0⟩, false, ⟨L, (L.Fields.length : Int), 0, 0⟩) := by
  unfold gRS_End
  rw [left_at hl (Nat.le_refl _)]
  simp
theorem frame_at {L : T_api_Line} {k : Nat} {f : T_api_Field} {r : Int} {d : Bool} {n : Int} (hr : 0 ≤ r ∧ r ≤ 255) (hl : L.Fields.length ≤ 1000) (hf : L.Fields[k]? = some f) (hq : f.Quoted = false) (hk : kd r d = 0) (h0 : 0 ≤ n) (h1 : n < dayS r d) (ht : f.Text = lblS r d n) (t : List UInt8) (cs : List T_api_Cut) : g_ref44_take ⟨L, (k : Int), 0, 0⟩ ⟨t, r, d, cs⟩ = some (n, ⟨L, ((k + 1 : Nat) : Int), 0, 0⟩) := by
  obtain ⟨b1, b2, b3⟩ := lab_back hk h0 h1
  have hlab : labS r d n = (lab (rN r) (dp r d) d n, 0) := by
    unfold labS
    rw [if_neg (by simpa using hk), if_neg (by omega)]
  have htx : f.Text = tcT (lab (rN r) (dp r d) d n) := by
    rw [ht]; unfold lblS tcS; rw [hlab, if_neg (by simpa using b1)]
  have hp : g_ref03_Parse r f.Text = some (lab (rN r) (dp r d) d n, 0) := by rw [← tc_same hr, htx]; exact tc_back hr b1
  have hfr : frmS r (lab (rN r) (dp r d) d n) = (n, 0) := by
    unfold frmS
    rw [if_neg (by simpa using b1), b3, b2]
  unfold g_ref44_take
  rw [word_at hl hf hq]
  simp only [Option.bind_some, hp, fail_at, ref_tc_Frame hr, b3, beq_self_eq_true, if_true, hfr]
theorem plain_digs {w : List UInt8} (hne : w ≠ []) (h : ∀ b ∈ w, (48 ≤ b.toNat ∧ b.toNat ≤ 57) ∨ b.toNat = 58 ∨ b.toNat = 59 ∨ b.toNat = 47) : plainW w := by
  refine ⟨hne, fun b hb => ?_, fun b hb => ?_⟩
  · have := h b hb
    unfold wB
    simp only [Bool.and_eq_true, decide_eq_true_eq, bne_iff_ne, ne_eq]
    omega
  · have := h b hb
    omega
theorem plain_lbl {r : Int} {d : Bool} {n : Int} (hk : kd r d = 0) (h0 : 0 ≤ n) (h1 : n < dayS r d) : plainW (lblS r d n) := by
  obtain ⟨b1, b2, b3⟩ := lab_back hk h0 h1
  have hlab : labS r d n = (lab (rN r) (dp r d) d n, 0) := by
    unfold labS
    rw [if_neg (by simpa using hk), if_neg (by omega)]
  have htx : lblS r d n = tcT (lab (rN r) (dp r d) d n) := by
    unfold lblS tcS; rw [hlab, if_neg (by simpa using b1)]
  rw [htx]
  obtain ⟨hk', hb⟩ := chkL_0 b1
  have hnp := np_range (kd_np hk).1
  generalize lab (rN r) (dp r d) d n = l at *
  unfold lbad at hb
  obtain ⟨a1, a2, aE, aX, aY⟩ := d2_digits (n := l.H) (by omega)
  obtain ⟨c1, c2, cE, cX, cY⟩ := d2_digits (n := l.M) (by omega)
  obtain ⟨e1, e2, eE, eX, eY⟩ := d2_digits (n := l.S) (by omega)
  obtain ⟨f1, f2, fE, fX, fY⟩ := d2_digits (n := l.F) (by omega)
  have hs : tcT l = [a1, a2, 58, c1, c2, 58, e1, e2, if l.Drop then 59 else 58, f1, f2] := by
    unfold tcT; rw [aE, cE, eE, fE]; rfl
  rw [hs]
  refine plain_digs (by simp) fun b hb' => ?_
  simp only [List.mem_cons, List.not_mem_nil, or_false] at hb'
  have e58 : (58 : UInt8).toNat = 58 := by decide
  rcases hb' with rfl | rfl | rfl | rfl | rfl | rfl | rfl | rfl | rfl | rfl | rfl
  · left; omega
  · left; omega
  · right; left; exact e58
  · left; omega
  · left; omega
  · right; left; exact e58
  · left; omega
  · left; omega
  · right; cases l.Drop
    · left; decide
    · right; left; decide
  · left; omega
  · left; omega
theorem plain_rT {x : T_api_Ratio} (h : spOK x) : plainW (rT x) := by
  obtain ⟨h1, h2, h3, h4⟩ := h
  have hp := vR_in h1
  unfold inP at hp
  obtain ⟨a1, a2, a3⟩ := plain_itoa (n := x.Num) h2
  obtain ⟨b1, b2, b3⟩ := plain_itoa (n := x.Den) (by omega)
  rw [rT_eq]
  refine ⟨by simp, fun b hb => ?_, fun b hb => ?_⟩
  · rcases List.mem_append.1 hb with hb | hb
    · exact a2 b hb
    · rcases List.mem_cons.1 hb with rfl | hb
      · decide
      · exact b2 b hb
  · rcases List.mem_append.1 hb with hb | hb
    · exact a3 b hb
    · rcases List.mem_cons.1 hb with rfl | hb
      · decide
      · exact b3 b hb
def cutV (r : Int) (d : Bool) (c : T_api_Cut) : List (List UInt8) := cutW r d c ++ if c.Speed.Num = 1 ∧ c.Speed.Den = 1 then [] else [[83, 80, 69, 69, 68], rT c.Speed]
theorem cutT_join {r : Int} {d : Bool} {c : T_api_Cut} (h : vR c.Speed = true) : cutT r d c = Lib.join (cutV r d c) [32] ++ [10] := by
  unfold cutT cutV spT
  by_cases hs : c.Speed.Num = 1 ∧ c.Speed.Den = 1
  · simp [hs]
  · have hr : rTx c.Speed = rT c.Speed := by unfold rTx; rw [if_pos h]
    rw [if_neg hs, if_neg hs, hr]
    unfold cutW
    simp only [List.cons_append, List.nil_append, Lib.join_cons, Lib.joinTail, List.append_assoc, List.append_nil, List.map_cons, List.map_nil, List.flatten_cons, List.flatten_nil]
structure CutG (r : Int) (d : Bool) (c : T_api_Cut) : Prop where
  num : 1 ≤ c.Number ∧ c.Number ≤ 999
  reel : isNm c.Reel = true
  src : 0 ≤ c.Source ∧ c.Source < dayS r d
  ein : 0 ≤ c.Record.In ∧ c.Record.In < dayS r d
  out : 0 ≤ c.Record.Out ∧ c.Record.Out < dayS r d
  sp : spOK c.Speed
theorem cutE_0 {r : Int} {d : Bool} {c : T_api_Cut} (h1 : cOK c) (h : cutE (dayS r d) c = 0) : CutG r d c := by
  unfold cutE at h
  split at h
  · omega
  · split at h
    · omega
    · split at h
      · omega
      · split at h
        · omega
        · rename_i h5
          split at h
          · omega
          · exact ⟨⟨h1.1, h1.2.1⟩, h1.2.2, by omega, by omega, by omega, by simpa using h5⟩
theorem cutV_plain {r : Int} {d : Bool} {c : T_api_Cut} (hk : kd r d = 0) (h : CutG r d c) : ∀ w ∈ cutV r d c, plainW w := by
  have e1 : plainW [67, 85, 84] := by unfold plainW; decide
  have e2 : plainW [83, 80, 69, 69, 68] := by unfold plainW; decide
  have e3 := plain_itoa (n := c.Number) (by have := h.num; omega)
  have e4 := plain_nm h.reel
  have e5 := plain_lbl hk h.src.1 h.src.2
  have e6 := plain_lbl hk h.ein.1 h.ein.2
  have e7 := plain_lbl hk h.out.1 h.out.2
  have e8 := plain_rT h.sp
  intro w hw
  unfold cutV cutW at hw
  split at hw
  · simp only [List.append_nil, List.mem_cons, List.not_mem_nil, or_false] at hw
    rcases hw with rfl | rfl | rfl | rfl | rfl | rfl <;> assumption
  · simp only [List.cons_append, List.nil_append, List.mem_cons, List.not_mem_nil, or_false] at hw
    rcases hw with rfl | rfl | rfl | rfl | rfl | rfl | rfl | rfl <;> assumption
theorem rnum_ok {n : Int} (h : 1 ≤ n ∧ n ≤ 999) : g_ref07_Number (Lib.itoa n) 1 999 = some (n, 0) := by
  have hl := itoa_len (n := n) (by omega)
  rw [ref_Number_eq _ _ _ (by omega), numS_in n 1 999 (by omega) (by omega) h.1 h.2]
theorem cut_back {r : Int} {d : Bool} {c : T_api_Cut} (hr : 0 ≤ r ∧ r ≤ 255) (hk : kd r d = 0) (h : CutG r d c) (n : Int) (t : List UInt8) (cs : List T_api_Cut) : g_ref44_cut ⟨n, fldsOf (cutV r d c) 0⟩ ⟨t, r, d, cs⟩ = some (c, ⟨0, 0, 0⟩, false) := by
  unfold g_ref44_cut g_ref07_Scan
  simp only [Option.bind_some]
  by_cases hs : c.Speed.Num = 1 ∧ c.Speed.Den = 1
  · have hV : cutV r d c = cutW r d c := by unfold cutV; rw [if_pos hs, List.append_nil]
    rw [hV]
    have hl : (⟨n, fldsOf (cutW r d c) 0⟩ : T_api_Line).Fields.length ≤ 1000 := by simp [cutW, fldsOf]
    have e0 := choice_at (k := 0) (ws := [[67, 85, 84]]) hl rfl rfl 0 (by simp) rfl (by intro j hj; omega)
    have e1 := number_at (k := 1) hl rfl rfl (rnum_ok h.num)
    have e2 := name_at (k := 2) hl rfl rfl h.reel
    have e3 := frame_at (k := 3) hr hl rfl rfl hk h.src.1 h.src.2 rfl t []
    have e4 := frame_at (k := 4) hr hl rfl rfl hk h.ein.1 h.ein.2 rfl t []
    have e5 := frame_at (k := 5) hr hl rfl rfl hk h.out.1 h.out.2 rfl t []
    have e6 := left_at (k := 6) hl (by simp [cutW, fldsOf])
    have e7 := end_at hl
    have hlen : (⟨n, fldsOf (cutW r d c) 0⟩ : T_api_Line).Fields.length = 6 := rfl
    rw [hlen] at e6 e7
    have e0' : gRS_Choice ⟨⟨n, fldsOf (cutW r d c) 0⟩, 0, 0, 0⟩ [[67, 85, 84]] = some (0, ⟨⟨n, fldsOf (cutW r d c) 0⟩, ((1 : Nat) : Int), 0, 0⟩) := e0
    rw [e0']; simp only [Option.bind_some]
    rw [e1]; simp only [Option.bind_some]
    rw [e2]; simp only [Option.bind_some]
    rw [e3]; simp only [Option.bind_some]
    rw [e4]; simp only [Option.bind_some]
    rw [e5]; simp only [Option.bind_some]
    rw [e6]; simp only [Option.bind_some]
    rw [if_neg (by simp), e7]
    simp only [Option.bind_some]
    obtain ⟨N, R, S, ⟨I, O⟩, ⟨A, B⟩⟩ := c
    obtain ⟨rfl, rfl⟩ := hs
    rfl
  · have hV : cutV r d c = cutW r d c ++ [[83, 80, 69, 69, 68], rT c.Speed] := by unfold cutV; rw [if_neg hs]
    rw [hV]
    have hl : (⟨n, fldsOf (cutW r d c ++ [[83, 80, 69, 69, 68], rT c.Speed]) 0⟩ : T_api_Line).Fields.length ≤ 1000 := by simp [cutW, fldsOf]
    have hrl := rT_len h.sp.1
    obtain ⟨x, e, k1, k2, k3⟩ := ratio_both (rT c.Speed) (by omega)
    obtain ⟨rfl, rfl⟩ := k3 c.Speed ⟨h.sp.1, rfl⟩
    have e0 := choice_at (k := 0) (ws := [[67, 85, 84]]) hl rfl rfl 0 (by simp) rfl (by intro j hj; omega)
    have e1 := number_at (k := 1) hl rfl rfl (rnum_ok h.num)
    have e2 := name_at (k := 2) hl rfl rfl h.reel
    have e3 := frame_at (k := 3) hr hl rfl rfl hk h.src.1 h.src.2 rfl t []
    have e4 := frame_at (k := 4) hr hl rfl rfl hk h.ein.1 h.ein.2 rfl t []
    have e5 := frame_at (k := 5) hr hl rfl rfl hk h.out.1 h.out.2 rfl t []
    have e6 := left_at (k := 6) hl (by simp [cutW, fldsOf])
    have e8 := choice_at (k := 6) (ws := [[83, 80, 69, 69, 68]]) hl rfl rfl 0 (by simp) rfl (by intro j hj; omega)
    have e9 := word_at (k := 7) hl rfl rfl
    have e7 := end_at hl
    have hlen : (⟨n, fldsOf (cutW r d c ++ [[83, 80, 69, 69, 68], rT c.Speed]) 0⟩ : T_api_Line).Fields.length = 8 := rfl
    rw [hlen] at e6 e7
    have e0' : gRS_Choice ⟨⟨n, fldsOf (cutW r d c ++ [[83, 80, 69, 69, 68], rT c.Speed]) 0⟩, 0, 0, 0⟩ [[67, 85, 84]] = some (0, ⟨⟨n, fldsOf (cutW r d c ++ [[83, 80, 69, 69, 68], rT c.Speed]) 0⟩, ((1 : Nat) : Int), 0, 0⟩) := e0
    rw [e0']; simp only [Option.bind_some]
    rw [e1]; simp only [Option.bind_some]
    rw [e2]; simp only [Option.bind_some]
    rw [e3]; simp only [Option.bind_some]
    rw [e4]; simp only [Option.bind_some]
    rw [e5]; simp only [Option.bind_some]
    rw [e6]; simp only [Option.bind_some]
    rw [if_pos (by simp), e8]; simp only [Option.bind_some]
    rw [e9]; simp only [Option.bind_some]
    rw [k2]; simp only [Option.bind_some, fail_at]
    rw [e7]
    rfl
end Go.Proofs.YtnjjdbljoligdaaGreatDoor
namespace Go.Proofs.YtnjjdbljoligdaaGreatDoor
set_option maxRecDepth 100000
def dw (d : Bool) : List UInt8 := if d then [68, 82, 79, 80] else [78, 68, 70]
def hdL (t : List UInt8) (r : Int) (d : Bool) : List UInt8 := [69, 68, 76] ++ (32 :: (quS t ++ (32 :: (rS r ++ (32 :: dw d)))))
theorem hdT_eq (t : List UInt8) (r : Int) (d : Bool) : hdT t r d = hdL t r d ++ [10] := by
  unfold hdT hdL dw
  simp only [List.cons_append, List.nil_append, List.append_assoc]
theorem plain_dw (d : Bool) : plainW (dw d) := by
  cases d <;> (unfold plainW dw; decide)
theorem plain_rS {r : Int} (h : rV r = true) : plainW (rS r) := by
  simp only [rV, Bool.and_eq_true, decide_eq_true_eq] at h
  have : r = 1 ∨ r = 2 ∨ r = 3 ∨ r = 4 ∨ r = 5 ∨ r = 6 ∨ r = 7 := by omega
  rcases this with rfl | rfl | rfl | rfl | rfl | rfl | rfl <;> (unfold plainW rS; decide)
theorem kd_rV {r : Int} {d : Bool} (h : kd r d = 0) : rV r = true := by
  cases hv : rV r
  · unfold kd at h; rw [hv] at h; simp at h
  · rfl
theorem gv_pl {t : List UInt8} (h : gv t = true) : t.all plB = true := by
  rw [List.all_eq_true]
  intro b hb
  have := gv_bytes t.length t (Nat.le_refl _) h b hb
  simp only [plB, Bool.or_eq_true, Bool.and_eq_true, decide_eq_true_eq, bne_iff_ne, ne_eq, beq_iff_eq]
  left; omega
theorem fS_head {t : List UInt8} {r : Int} {d : Bool} (hg : gv t = true) (hk : kd r d = 0) : ∃ c1 c2 c3, fS (hdL t r d) 0 = .ok [⟨[69, 68, 76], 1, false⟩, ⟨t, c1, true⟩, ⟨rS r, c2, false⟩, ⟨dw d, c3, false⟩] := by
  have p1 : plainW [69, 68, 76] := by unfold plainW; decide
  have p2 := plain_rS (kd_rV hk)
  have p3 := plain_dw d
  unfold hdL
  rw [fS_word p1 (.inr rfl), fS_blank]
  obtain ⟨q, hq⟩ := fS_quote (s := t) (t := 32 :: (rS r ++ (32 :: dw d))) (p := 0 + ([69, 68, 76] : List UInt8).length + 1) (gv_pl hg) (.inr rfl)
  rw [hq, fS_blank, fS_word p2 (.inr rfl), fS_blank]
  have h4 := fS_word (w := dw d) (t := []) (p := q + 1 + (rS r).length + 1) p3 (.inl rfl)
  rw [List.append_nil] at h4
  rw [h4, fS_nil]
  exact ⟨_, _, _, rfl⟩
theorem head_back {t : List UInt8} {r : Int} {d : Bool} (hr : 0 ≤ r ∧ r ≤ 255) (hk : kd r d = 0) (n c1 c2 c3 : Int) : g_ref44_head ⟨n, [⟨[69, 68, 76], 1, false⟩, ⟨t, c1, true⟩, ⟨rS r, c2, false⟩, ⟨dw d, c3, false⟩]⟩ = some (⟨t, r, d, []⟩, ⟨0, 0, 0⟩, false) := by
  unfold g_ref44_head g_ref07_Scan
  have a0 : atI [(⟨[69, 68, 76], 1, false⟩ : T_api_Field), ⟨t, c1, true⟩, ⟨rS r, c2, false⟩, ⟨dw d, c3, false⟩] 0 = some ⟨[69, 68, 76], 1, false⟩ := rfl
  dsimp only
  rw [a0]
  simp only [Option.bind_some, Bool.false_eq_true, if_false, beq_self_eq_true, Bool.not_true]
  generalize hL : (⟨n, [⟨[69, 68, 76], 1, false⟩, ⟨t, c1, true⟩, ⟨rS r, c2, false⟩, ⟨dw d, c3, false⟩]⟩ : T_api_Line) = L
  have hl : L.Fields.length ≤ 1000 := by rw [← hL]; simp
  have f0 : L.Fields[0]? = some ⟨[69, 68, 76], 1, false⟩ := by rw [← hL]; rfl
  have f1 : L.Fields[1]? = some ⟨t, c1, true⟩ := by rw [← hL]; rfl
  have f2 : L.Fields[2]? = some ⟨rS r, c2, false⟩ := by rw [← hL]; rfl
  have f3 : L.Fields[3]? = some ⟨dw d, c3, false⟩ := by rw [← hL]; rfl
  have hlen : L.Fields.length = 4 := by rw [← hL]; rfl
  have e0 := word_at (k := 0) hl f0 rfl
  have e1 := quoted_at (k := 1) hl f1 rfl
  have e2 := word_at (k := 2) hl f2 rfl
  have e3 : gRS_Choice ⟨L, ((3 : Nat) : Int), 0, 0⟩ [[68, 82, 79, 80], [78, 68, 70]] = some (if d then 0 else 1, ⟨L, ((4 : Nat) : Int), 0, 0⟩) := by
    cases d with
    | true => exact choice_at (k := 3) (ws := [[68, 82, 79, 80], [78, 68, 70]]) hl f3 rfl 0 (by simp) rfl (by intro j hj; omega)
    | false => exact choice_at (k := 3) (ws := [[68, 82, 79, 80], [78, 68, 70]]) hl f3 rfl 1 (by simp) rfl (by intro j hj; obtain rfl : j = 0 := (by omega); simp [dw])
  have e4 := end_at hl
  rw [hlen] at e4
  have e0' : gRS_Word ⟨L, 0, 0, 0⟩ = some ([69, 68, 76], ⟨L, ((1 : Nat) : Int), 0, 0⟩) := e0
  rw [e0']; simp only [Option.bind_some]
  rw [e1]; simp only [Option.bind_some]
  rw [e2]; simp only [Option.bind_some, ref_rate_Parse, rPs_back (kd_rV hk), fail_at]
  rw [e3]; simp only [Option.bind_some, (rates hr).2.2.2.2.2.1]
  have hv : (if ((if d then 0 else 1 : Int) == 0) = true then some (!rDr r) else some false : Option Bool) = some false := by
    cases d with
    | false => rfl
    | true =>
      have : rDr r = true := by
        unfold kd at hk
        rw [kd_rV hk] at hk
        cases hd : rDr r
        · rw [hd] at hk; simp at hk
        · rfl
      simp [this]
  rw [hv]
  simp only [Option.bind_some, Bool.false_eq_true, if_false]
  rw [e4]
  cases d <;> rfl
def lnsOf (r : Int) (d : Bool) : Nat → List T_api_Cut → List T_api_Line
  | _, [] => []
  | n, c :: cs => ⟨((n + 1 : Nat) : Int), fldsOf (cutV r d c) 0⟩ :: lnsOf r d (n + 1) cs
theorem lnsOf_len (r : Int) (d : Bool) : ∀ (n : Nat) (cs : List T_api_Cut), (lnsOf r d n cs).length = cs.length
  | _, [] => rfl
  | n, c :: cs => by simp [lnsOf, lnsOf_len r d (n + 1) cs]
def cutL (r : Int) (d : Bool) (c : T_api_Cut) : List UInt8 := Lib.join (cutV r d c) [32]
theorem lr_cut {r : Int} {d : Bool} {c : T_api_Cut} (hk : kd r d = 0) (h : CutG r d c) (n : Nat) : lr n (cutL r d c) = some (.inr ⟨((n + 1 : Nat) : Int), fldsOf (cutV r d c) 0⟩) := by
  have hl : (cutL r d c).length ≤ 1000 := by
    have h1 := cutT_len (r := r) (d := d) (c := c) ⟨h.num.1, h.num.2, h.reel⟩
    rw [cutT_join h.sp.1] at h1
    rw [List.length_append] at h1
    unfold cutL
    omega
  unfold lr
  rw [if_neg (by omega)]
  unfold cutL
  rw [fS_words _ 0 (cutV_plain hk h)]
  unfold cutV cutW
  rfl
theorem allR_cuts {r : Int} {d : Bool} (hk : kd r d = 0) : ∀ (cs : List T_api_Cut) (n : Nat) (ls : List T_api_Line), (∀ c ∈ cs, CutG r d c) → allR n (cs.map (cutL r d) ++ [[]]) (ls, []) = (ls ++ lnsOf r d n cs, [])
  | [], n, ls, _ => by
    have : lr n [] = none := by unfold lr; rw [if_neg (by simp), fS_nil]
    simp [allR, this, accL, lnsOf]
  | c :: cs, n, ls, h => by
    simp only [List.map_cons, List.cons_append, allR]
    rw [lr_cut hk (h c (by simp)) n]
    simp only [accL]
    rw [allR_cuts hk cs (n + 1) _ (fun x hx => h x (by simp [hx]))]
    simp [lnsOf]
theorem spL_cuts {r : Int} {d : Bool} (hk : kd r d = 0) : ∀ (cs : List T_api_Cut), (∀ c ∈ cs, CutG r d c) → spL (cs.flatMap (cutT r d)) = cs.map (cutL r d) ++ [[]]
  | [], _ => rfl
  | c :: cs, h => by
    have hc := h c (by simp)
    rw [List.flatMap_cons, cutT_join hc.sp.1, List.append_assoc, List.cons_append, List.nil_append, spL_app _ _ (join_no10 _ (cutV_plain hk hc)), spL_cuts hk cs (fun x hx => h x (by simp [hx]))]
    rfl
theorem quB_no10 {b : UInt8} (h : 32 ≤ b.toNat) : ∀ x ∈ quB b, x.toNat ≠ 10 := by
  intro x hx
  unfold quB at hx
  split at hx
  · simp only [List.mem_cons, List.not_mem_nil, or_false] at hx
    rcases hx with rfl | rfl
    · decide
    · omega
  · rw [if_neg (by omega)] at hx
    simp at hx
    subst hx; omega
theorem hdL_no10 {t : List UInt8} {r : Int} {d : Bool} (hg : gv t = true) (hk : kd r d = 0) : ∀ b ∈ hdL t r d, b.toNat ≠ 10 := by
  have p2 := plain_no10 (plain_rS (kd_rV hk))
  have p3 := plain_no10 (plain_dw d)
  have hq : ∀ b ∈ quS t, b.toNat ≠ 10 := by
    intro b hb
    unfold quS at hb
    rcases List.mem_cons.1 hb with rfl | hb
    · decide
    · rcases List.mem_append.1 hb with hb | hb
      · obtain ⟨x, hx, hb⟩ := List.mem_flatMap.1 hb
        exact quB_no10 (gv_bytes t.length t (Nat.le_refl _) hg x hx).1 b hb
      · simp at hb; subst hb; decide
  intro b hb
  unfold hdL at hb
  simp only [List.mem_append, List.mem_cons, List.not_mem_nil, or_false] at hb
  rcases hb with (rfl | rfl | rfl) | rfl | hb | rfl | hb | rfl | hb
  · decide
  · decide
  · decide
  · decide
  · exact hq b hb
  · decide
  · exact p2 b hb
  · decide
  · exact p3 b hb
theorem cutF_back {r : Int} {d : Bool} {c : T_api_Cut} (hr : 0 ≤ r ∧ r ≤ 255) (hk : kd r d = 0) (h : CutG r d c) (n : Int) : cutF r d ⟨n, fldsOf (cutV r d c) 0⟩ = (c, ⟨0, 0, 0⟩, false) := by
  unfold cutF
  rw [cut_back hr hk h]
  rfl
theorem fold_back {r : Int} {d : Bool} (hr : 0 ≤ r ∧ r ≤ 255) (hk : kd r d = 0) : ∀ (cs : List T_api_Cut) (n : Nat) (acc : List T_api_Cut), (∀ c ∈ cs, CutG r d c) → (lnsOf r d n cs).foldl (FQ r d) ([], acc) = ([], acc ++ cs)
  | [], n, acc, _ => by simp [lnsOf]
  | c :: cs, n, acc, h => by
    simp only [lnsOf, List.foldl_cons]
    have : FQ r d ([], acc) ⟨((n + 1 : Nat) : Int), fldsOf (cutV r d c) 0⟩ = ([], acc ++ [c]) := by
      unfold FQ
      rw [cutF_back hr hk (h c (by simp))]
      simp
    rw [this, fold_back hr hk cs (n + 1) _ (fun x hx => h x (by simp [hx]))]
    simp
theorem splitS_lst {t : List UInt8} {r : Int} {d : Bool} {cs : List T_api_Cut} (h : chkS t r d cs = 0) : ∃ c1 c2 c3, splitS (lstT t r d cs) = (⟨1, [⟨[69, 68, 76], 1, false⟩, ⟨t, c1, true⟩, ⟨rS r, c2, false⟩, ⟨dw d, c3, false⟩]⟩ :: lnsOf r d 1 cs, []) := by
  obtain ⟨h1, h2, h3, h4, h5, h6⟩ := chkS_ok h
  have hok := chkC_ok h5
  have hG : ∀ c ∈ cs, CutG r d c := fun c hc => cutE_0 (hok c hc).1 (hok c hc).2
  have hlen := hdT_len t r d
  have hfl := flat_len3 r d cs (fun c hc => (hok c hc).1)
  obtain ⟨c1, c2, c3, hf⟩ := fS_head (d := d) h1 h3
  refine ⟨c1, c2, c3, ?_⟩
  have hsp : spL (lstT t r d cs) = hdL t r d :: (cs.map (cutL r d) ++ [[]]) := by
    unfold lstT
    rw [hdT_eq, List.append_assoc, List.cons_append, List.nil_append, spL_app _ _ (hdL_no10 h1 h3), spL_cuts h3 cs hG]
  have hlr : lr 0 (hdL t r d) = some (.inr ⟨1, [⟨[69, 68, 76], 1, false⟩, ⟨t, c1, true⟩, ⟨rS r, c2, false⟩, ⟨dw d, c3, false⟩]⟩) := by
    have : (hdL t r d).length ≤ 1000 := by
      rw [hdT_eq, List.length_append] at hlen
      omega
    unfold lr
    rw [if_neg (by omega), hf]
    rfl
  unfold splitS
  rw [if_neg (by unfold lstT; rw [List.length_append]; omega), hsp]
  simp only [allR]
  rw [hlr]
  simp only [accL, List.nil_append]
  rw [allR_cuts h3 cs 1 _ hG]
  rfl
theorem Parse_back {t : List UInt8} {r : Int} {d : Bool} {cs : List T_api_Cut} (hr : 0 ≤ r ∧ r ≤ 255) (h : chkS t r d cs = 0) : g_edl_Parse (lstT t r d cs) = some (⟨t, r, d, cs⟩, []) := by
  obtain ⟨h1, h2, h3, h4, h5, h6⟩ := chkS_ok h
  have hok := chkC_ok h5
  have hG : ∀ c ∈ cs, CutG r d c := fun c hc => cutE_0 (hok c hc).1 (hok c hc).2
  have href : g_ref44_Parse (lstT t r d cs) = some (⟨t, r, d, cs⟩, []) := by
    obtain ⟨c1, c2, c3, hs⟩ := splitS_lst h
    have hsm := splitS_small (lstT t r d cs)
    have htx := splitS_texts (lstT t r d cs)
    unfold g_ref44_Parse
    rw [Split_n_eq]
    rw [hs] at hsm htx ⊢
    dsimp only at hsm htx
    simp only [Option.bind_some, List.isEmpty_nil, if_true]
    generalize hx : (⟨1, [⟨[69, 68, 76], 1, false⟩, ⟨t, c1, true⟩, ⟨rS r, c2, false⟩, ⟨dw d, c3, false⟩]⟩ : T_api_Line) = x at *
    have a0 : atI (x :: lnsOf r d 1 cs) 0 = some x := rfl
    have e2 : (((x :: lnsOf r d 1 cs).length : Int) == 0) = false := by rw [beq_eq_false_iff_ne, List.length_cons]; omega
    simp only [e2, Bool.false_eq_true, if_false, a0, Option.bind_some]
    rw [← hx, head_back hr h3]
    simp only [Option.bind_some, Bool.false_eq_true, if_false]
    rw [hx]
    have hsub : subL (x :: lnsOf r d 1 cs) 1 = some (lnsOf r d 1 cs) := by
      unfold subL
      rw [if_pos ⟨by omega, by simp⟩]
      simp
    rw [hsub]
    simp only [Option.bind_some]
    have hll := lnsOf_len r d 1 cs
    obtain ⟨q1, q2, q3⟩ := ref_cuts (t := t) (d := d) (g := ⟨0, 0, 0⟩) (b := false) hr (lnsOf r d 1 cs) (by omega) (fun y hy => ⟨hsm.2.2 y (by simp [hy]), htx y (by simp [hy])⟩)
    rw [q1, fold_back hr h3 cs 1 [] hG]
    simp only [Option.bind_some, List.nil_append]
    have e3 : decide ((0 : Int) < (([] : List T_api_Diag).length : Int)) = false := rfl
    simp only [e3, Bool.false_eq_true, if_false]
    rw [ref_Check _ hr (by dsimp only; omega), h]
    rfl
  obtain ⟨t', r', d', cs', ds, k1, k2, _⟩ := Parse_both (lstT t r d cs)
  rw [href] at k2
  rw [k1]
  injection k2 with k2
  injection k2 with e1 e2
  injection e1 with e3 e4 e5 e6
  rw [← e2, ← e3, ← e4, ← e5, ← e6]
theorem EdlBack_true (l : TRL) (hr : 0 ≤ l.Rate ∧ l.Rate ≤ 255) : g_law44_EdlBack l = some true := by
  unfold g_law44_EdlBack
  rw [awake44, small_eq]
  simp only [Option.bind_some, if_true]
  cases h : smB l
  · rfl
  · obtain ⟨h1, h2⟩ := smB_t h
    simp only [if_true, g_law44_Of, Option.bind_some]
    rw [prog_Text _ hr (by dsimp only; omega)]
    simp only [Option.bind_some, txtS]
    by_cases hk : chkS l.Title l.Rate l.Drop l.Cuts = 0
    · rw [if_neg (c := chkS l.Title l.Rate l.Drop l.Cuts ≠ 0) (by simpa using hk)]
      simp only [bne_self_eq_false, Bool.false_eq_true, if_false]
      rw [Parse_back hr hk]
      simp only [Option.bind_some, g_law44_Ref]
      have e : ((([] : List T_api_Diag).length : Int) == 0) = true := rfl
      simp only [e, if_true]
      have hl : (⟨l.Title, l.Rate, l.Drop, l.Cuts⟩ : TRL) = l := rfl
      rw [hl, same_self l (by omega)]
      rfl
    · rw [if_pos (c := chkS l.Title l.Rate l.Drop l.Cuts ≠ 0) hk]
      have hk2 : (chkS l.Title l.Rate l.Drop l.Cuts != 0) = true := by simpa using hk
      simp only [hk2, if_true]
      rfl
end Go.Proofs.YtnjjdbljoligdaaGreatDoor
namespace Go.Proofs.YtnjjdbljoligdaaGreatDoor
set_option maxRecDepth 100000
theorem law_EdlBack (l : TRL) : AFun Tryz.prog Env8 7 [l.d] (.bool true) := by
  refine AFun.sized (by kernel_rfl) fun hz => ?_
  exact a_law44_EdlBack stabEnv8 (fun _ h => h.2.2.1) (fun _ h => h.2.1) (fun _ h => h.1) (fun _ h => h.2.2.2) (EdlBack_true l (lst_rate hz))
end Go.Proofs.YtnjjdbljoligdaaGreatDoor

