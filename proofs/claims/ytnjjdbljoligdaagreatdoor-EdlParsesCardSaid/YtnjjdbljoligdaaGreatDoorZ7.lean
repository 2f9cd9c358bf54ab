/- Texts of one proof, put together (M12, N2, LN2, M13, M14, LN3, LN). No condition but those that each theorem states. -/
import Derived.Test.YtnjjdbljoligdaaGreatDoorZ6
set_option linter.unusedSimpArgs false
set_option linter.unusedVariables false
namespace Go.Proofs.YtnjjdbljoligdaaGreatDoor
set_option maxRecDepth 100000
theorem iter_fold3 {D C α : Type} {step : D × Int × C → Option (Nx (D × Int × C) (D × C))} (cs : List α) (hn : cs.length ≤ 1000000) (F : D × C → α → D × C) (Inv : Nat → D × C → Prop) (a0 : D × C) (h0 : Inv 0 a0)
    (hgo : ∀ (i : Nat) (h : i < cs.length) (a : D × C), Inv i a → step (a.1, (i : Int), a.2) = some (.go ((F a cs[i]).1, (i : Int) + 1, (F a cs[i]).2)) ∧ Inv (i + 1) (F a cs[i])) (hend : ∀ a, Inv cs.length a → step (a.1, (cs.length : Int), a.2) = some (.out a)) : iter step (a0.1, 0, a0.2) = some (cs.foldl F a0) ∧ Inv cs.length (cs.foldl F a0) := by
  have key : iter step (a0.1, 0, a0.2) = some (cs.foldl F a0) := by
    refine iter_of (fun x e => ∃ i : Nat, x.2.1 = (i : Int) ∧ i ≤ cs.length ∧ Inv i (x.1, x.2.2) ∧ e = (cs.drop i).foldl F (x.1, x.2.2)) (fun x => cs.length - x.2.1.toNat) ?_ (x := (a0.1, 0, a0.2)) ⟨0, rfl, Nat.zero_le _, h0, by simp⟩ (by show cs.length - _ < _; omega)
    rintro ⟨d, z, c⟩ e ⟨i, hz, hi, hI, rfl⟩
    dsimp only at hz hI ⊢
    subst hz
    by_cases h : i < cs.length
    · left
      obtain ⟨h1, h2⟩ := hgo i h (d, c) hI
      refine ⟨_, h1, ⟨i + 1, by simp, by omega, h2, ?_⟩, by simp; omega⟩
      rw [List.drop_eq_getElem_cons h, List.foldl_cons]
    · right
      obtain rfl : i = cs.length := by omega
      have := hend (d, c) hI
      rw [this]; simp
  refine ⟨key, ?_⟩
  have : ∀ (i : Nat) (a : D × C), i ≤ cs.length → Inv i a → Inv cs.length ((cs.drop i).foldl F a) := by
    intro i
    induction hk : cs.length - i generalizing i with
    | zero => intro a hi hI; obtain rfl : i = cs.length := by omega
              simpa using hI
    | succ k ih =>
      intro a hi hI
      have h : i < cs.length := by omega
      rw [List.drop_eq_getElem_cons h, List.foldl_cons]
      exact ih (i + 1) (by omega) _ (by omega) (hgo i h a hI).2
  simpa using this 0 a0 (Nat.zero_le _) h0
def cutF (r : Int) (d : Bool) (x : T_api_Line) : T_api_Cut × T_api_Diag × Bool := (g_ref44_cut x ⟨[], r, d, []⟩).getD (⟨0, [], 0, ⟨0, 0⟩, ⟨0, 0⟩⟩, ⟨0, 0, 0⟩, false)
theorem cutF_eq {x : T_api_Line} (hx : x.Fields.length ≤ 1000 ∧ ∀ f ∈ x.Fields, f.Text.length ≤ 1000) {r : Int} (hr : 0 ≤ r ∧ r ≤ 255) (t t' : List UInt8) (d : Bool) (cs cs' : List T_api_Cut) : g_ref44_cut x ⟨t, r, d, cs⟩ = some (cutF r d x) ∧ g_edl_cut x ⟨t', r, d, cs'⟩ = some (cutF r d x) ∧ ((cutF r d x).2.2 = true → (cutF r d x).2.1.Line = x.Number ∧ (cutF r d x).2.1.Code ≠ 0) := by
  obtain ⟨c, g, b, h1, h2, h3⟩ := cut_both hx hr [] t' d [] cs'
  obtain ⟨c2, g2, b2, k1, k2, k3⟩ := cut_both hx hr t t' d cs cs'
  have e : cutF r d x = (c, g, b) := by unfold cutF; rw [h1]; rfl
  rw [k2] at h2
  rw [e]
  exact ⟨by rw [k1, h2], by rw [k2, h2], h3⟩
def FP (r : Int) (d : Bool) (a : List T_api_Diag × List T_api_Cut) (x : T_api_Line) : List T_api_Diag × List T_api_Cut :=
  if (cutF r d x).2.2 = true then (if a.1.length < 50 then a.1 ++ [(cutF r d x).2.1] else a.1, a.2) else (a.1, a.2 ++ [(cutF r d x).1])
def FQ (r : Int) (d : Bool) (a : List T_api_Diag × List T_api_Cut) (x : T_api_Line) : List T_api_Diag × List T_api_Cut :=
  (if (cutF r d x).2.2 = true ∧ a.1.length < 50 then a.1 ++ [(cutF r d x).2.1] else a.1, a.2 ++ [(cutF r d x).1])
def lnOK (x : T_api_Line) : Prop := x.Fields.length ≤ 1000 ∧ ∀ f ∈ x.Fields, f.Text.length ≤ 1000
theorem prog_cuts {t : List UInt8} {r : Int} {d : Bool} {ds : List T_api_Diag} (hr : 0 ≤ r ∧ r ≤ 255) (z : List T_api_Line) (hz : z.length ≤ 300000) (hx : ∀ x ∈ z, lnOK x) : iter (g_edl_Parse_s1 (⟨t, r, d, []⟩, ds) z) ([], 0, []) = some (z.foldl (FP r d) ([], [])) ∧ (z.foldl (FP r d) ([], [])).1.length ≤ 50 ∧ (z.foldl (FP r d) ([], [])).2.length ≤ z.length := by
  refine iter_fold3 (step := g_edl_Parse_s1 (⟨t, r, d, []⟩, ds) z) z (by omega) (FP r d) (fun i a => a.1.length ≤ 50 ∧ a.2.length ≤ i) ([], []) (by simp) (fun i h a ⟨h1, h2⟩ => ?_) (fun a _ => ?_)
  · have e := (cutF_eq (hx _ (List.getElem_mem h)) hr t t d [] a.2).2.1
    unfold g_edl_Parse_s1
    dsimp only
    rw [if_pos (by simpa using h), atI_nat h, wr64 (x := (i : Int) + 1) (by omega)]
    simp only [Option.bind_some, e]
    unfold FP
    cases hb : (cutF r d z[i]).2.2
    · simp only [Bool.false_eq_true, if_false]
      rw [if_pos (by omega)]
      exact ⟨rfl, h1, by simp; omega⟩
    · simp only [if_true]
      by_cases hl : a.1.length < 50
      · rw [if_pos (by simp; omega), if_pos (by omega), if_pos hl]
        exact ⟨rfl, by simp; omega, by omega⟩
      · rw [if_neg (by simp; omega), if_neg hl]
        exact ⟨rfl, h1, by omega⟩
  · unfold g_edl_Parse_s1
    dsimp only
    rw [if_neg (by simp)]
theorem ref_cuts {t : List UInt8} {r : Int} {d : Bool} {g : T_api_Diag} {b : Bool} (hr : 0 ≤ r ∧ r ≤ 255) (z : List T_api_Line) (hz : z.length ≤ 300000) (hx : ∀ x ∈ z, lnOK x) : iter (g_ref44_Parse_s1 (⟨t, r, d, []⟩, g, b) z) ([], 0, []) = some (z.foldl (FQ r d) ([], [])) ∧ (z.foldl (FQ r d) ([], [])).1.length ≤ 50 ∧ (z.foldl (FQ r d) ([], [])).2.length ≤ z.length := by
  refine iter_fold3 (step := g_ref44_Parse_s1 (⟨t, r, d, []⟩, g, b) z) z (by omega) (FQ r d) (fun i a => a.1.length ≤ 50 ∧ a.2.length ≤ i) ([], []) (by simp) (fun i h a ⟨h1, h2⟩ => ?_) (fun a _ => ?_)
  · have e := (cutF_eq (hx _ (List.getElem_mem h)) hr t t d a.2 []).1
    unfold g_ref44_Parse_s1
    dsimp only
    rw [if_pos (by simpa using h), atI_nat h, wr64 (x := (i : Int) + 1) (by omega)]
    simp only [Option.bind_some, e]
    unfold FQ
    cases hb : (cutF r d z[i]).2.2
    · simp only [Bool.false_eq_true, if_false, Option.bind_some, false_and]
      rw [if_pos (by omega)]
      exact ⟨rfl, h1, by simp; omega⟩
    · simp only [if_true, Option.bind_some, true_and]
      by_cases hl : a.1.length < 50
      · rw [if_pos (by simp; omega), if_pos (by omega), if_pos (by omega), if_pos hl]
        exact ⟨rfl, by simp; omega, by simp; omega⟩
      · rw [if_neg (by simp; omega), if_pos (by omega), if_neg hl]
        exact ⟨rfl, h1, by simp; omega⟩
  · unfold g_ref44_Parse_s1
    dsimp only
    rw [if_neg (by simp)]
theorem folds (r : Int) (d : Bool) : ∀ (xs : List T_api_Line) (ds : List T_api_Diag) (c c' : List T_api_Cut), (xs.foldl (FP r d) (ds, c)).1 = (xs.foldl (FQ r d) (ds, c')).1 ∧ ((xs.foldl (FP r d) (ds, c)).1 = [] → ds = [] ∧ (c = c' → (xs.foldl (FP r d) (ds, c)).2 = (xs.foldl (FQ r d) (ds, c')).2))
  | [], ds, c, c' => ⟨rfl, fun h => ⟨h, fun h => h⟩⟩
  | x :: xs, ds, c, c' => by
    simp only [List.foldl_cons]
    have e1 : (FP r d (ds, c) x).1 = (FQ r d (ds, c') x).1 := by
      unfold FP FQ
      cases (cutF r d x).2.2 <;> simp
    have hp : FP r d (ds, c) x = ((FP r d (ds, c) x).1, (FP r d (ds, c) x).2) := rfl
    have hq : FQ r d (ds, c') x = ((FP r d (ds, c) x).1, (FQ r d (ds, c') x).2) := by rw [e1]
    rw [hp, hq]
    obtain ⟨k1, k2⟩ := folds r d xs (FP r d (ds, c) x).1 (FP r d (ds, c) x).2 (FQ r d (ds, c') x).2
    refine ⟨k1, fun h => ?_⟩
    obtain ⟨k3, k4⟩ := k2 h
    have h1 : ds = [] ∧ (cutF r d x).2.2 = false := by
      unfold FP at k3
      cases hb : (cutF r d x).2.2
      · rw [hb] at k3; simpa using k3
      · rw [hb] at k3
        simp only [if_true] at k3
        split at k3
        · simp at k3
        · rename_i hl; rw [k3] at hl; simp at hl
    refine ⟨h1.1, fun hc => k4 ?_⟩
    unfold FP FQ
    rw [h1.2, hc]
    simp
def dgOK (n : Nat) (ds : List T_api_Diag) : Prop := ds.Pairwise (fun a b => a.Line < b.Line) ∧ ∀ x ∈ ds, 1 ≤ x.Line ∧ x.Line ≤ (n : Int) ∧ x.Code ≠ 0
def lnsOK (n : Nat) (ls : List T_api_Line) : Prop := ls.Pairwise (fun a b => a.Number < b.Number) ∧ ∀ x ∈ ls, 1 ≤ x.Number ∧ x.Number ≤ (n : Int) ∧ x.Fields ≠ []
theorem dgOK_snoc {n m : Nat} {ds : List T_api_Diag} {g : T_api_Diag} (h : dgOK n ds) (hn : n ≤ m) (h1 : (n : Int) < g.Line) (h2 : g.Line ≤ (m : Int)) (h3 : g.Code ≠ 0) : dgOK m (ds ++ [g]) := by
  refine ⟨?_, fun x hx => ?_⟩
  · rw [List.pairwise_append]
    refine ⟨h.1, by simp, fun a ha b hb => ?_⟩
    simp at hb; subst hb
    have := (h.2 a ha).2.1
    omega
  · rcases List.mem_append.1 hx with hx | hx
    · have := h.2 x hx; exact ⟨this.1, by omega, this.2.2⟩
    · simp at hx; subst hx; exact ⟨by omega, h2, h3⟩
theorem lnsOK_snoc {n m : Nat} {ls : List T_api_Line} {g : T_api_Line} (h : lnsOK n ls) (hn : n ≤ m) (h1 : (n : Int) < g.Number) (h2 : g.Number ≤ (m : Int)) (h3 : g.Fields ≠ []) : lnsOK m (ls ++ [g]) := by
  refine ⟨?_, fun x hx => ?_⟩
  · rw [List.pairwise_append]
    refine ⟨h.1, by simp, fun a ha b hb => ?_⟩
    simp at hb; subst hb
    have := (h.2 a ha).2.1
    omega
  · rcases List.mem_append.1 hx with hx | hx
    · have := h.2 x hx; exact ⟨this.1, by omega, this.2.2⟩
    · simp at hx; subst hx; exact ⟨by omega, h2, h3⟩
theorem dgOK_mono {n m : Nat} {ds : List T_api_Diag} (h : dgOK n ds) (hn : n ≤ m) : dgOK m ds := ⟨h.1, fun x hx => ⟨(h.2 x hx).1, by have := (h.2 x hx).2.1; omega, (h.2 x hx).2.2⟩⟩
theorem lnsOK_mono {n m : Nat} {ls : List T_api_Line} (h : lnsOK n ls) (hn : n ≤ m) : lnsOK m ls := ⟨h.1, fun x hx => ⟨(h.2 x hx).1, by have := (h.2 x hx).2.1; omega, (h.2 x hx).2.2⟩⟩
theorem lr_num {n : Nat} {y : List UInt8} : (∀ g, lr n y = some (.inl g) → g.Line = ((n + 1 : Nat) : Int) ∧ g.Code ≠ 0) ∧ (∀ l, lr n y = some (.inr l) → l.Number = ((n + 1 : Nat) : Int) ∧ l.Fields ≠ []) := by
  unfold lr
  split
  · refine ⟨fun g h => ?_, fun l h => (by simp at h)⟩
    simp only [Option.some.injEq, Sum.inl.injEq] at h
    subst h
    exact ⟨rfl, show (9 : Int) ≠ 0 by decide⟩
  · split
    · refine ⟨fun g h => ?_, fun l h => (by simp at h)⟩
      simp only [Option.some.injEq, Sum.inl.injEq] at h
      subst h
      exact ⟨rfl, show (4 : Int) ≠ 0 by decide⟩
    · exact ⟨fun g h => (nomatch h), fun l h => (nomatch h)⟩
    · refine ⟨fun g h => (by simp at h), fun l h => ?_⟩
      simp only [Option.some.injEq, Sum.inr.injEq] at h
      subst h
      exact ⟨rfl, by simp⟩
theorem allR_good : ∀ (ys : List (List UInt8)) (n : Nat) (p : List T_api_Line × List T_api_Diag), lnsOK n p.1 → dgOK n p.2 → lnsOK (n + ys.length) (allR n ys p).1 ∧ dgOK (n + ys.length) (allR n ys p).2
  | [], n, p, h1, h2 => ⟨h1, h2⟩
  | y :: ys, n, p, h1, h2 => by
    have key : lnsOK (n + 1) (accL p (lr n y)).1 ∧ dgOK (n + 1) (accL p (lr n y)).2 := by
      obtain ⟨k1, k2⟩ := lr_num (n := n) (y := y)
      cases hl : lr n y with
      | none => exact ⟨lnsOK_mono h1 (by omega), dgOK_mono h2 (by omega)⟩
      | some v =>
        cases v with
        | inl g => exact ⟨lnsOK_mono h1 (by omega), dgOK_snoc h2 (by omega) (by rw [(k1 g hl).1]; omega) (by rw [(k1 g hl).1]; omega) (k1 g hl).2⟩
        | inr l => exact ⟨lnsOK_snoc h1 (by omega) (by rw [(k2 l hl).1]; omega) (by rw [(k2 l hl).1]; omega) (k2 l hl).2, dgOK_mono h2 (by omega)⟩
    have := allR_good ys (n + 1) _ key.1 key.2
    simp only [List.length_cons]
    rw [show n + (ys.length + 1) = n + 1 + ys.length by omega]
    exact this
theorem dgOK_take {n : Nat} {ds : List T_api_Diag} (h : dgOK n ds) (k : Nat) : dgOK n (ds.take k) := ⟨h.1.sublist (List.take_sublist _ _), fun x hx => h.2 x (List.mem_of_mem_take hx)⟩
theorem splitS_good (src : List UInt8) : lnsOK (spL src).length (splitS src).1 ∧ dgOK (spL src).length (splitS src).2 := by
  have hl := (spL_len src).1
  unfold splitS
  split
  · refine ⟨⟨by simp, by simp⟩, ⟨by simp, fun x hx => ?_⟩⟩
    simp at hx; subst hx
    exact ⟨by decide, by dsimp only; omega, by decide⟩
  · have := allR_good (spL src) 0 ([], []) ⟨by simp, by simp⟩ ⟨by simp, by simp⟩
    rw [Nat.zero_add] at this
    exact ⟨this.1, dgOK_take this.2 50⟩
theorem fold_good {r : Int} (hr : 0 ≤ r ∧ r ≤ 255) (d : Bool) (n : Nat) : ∀ (xs : List T_api_Line) (ds : List T_api_Diag) (c : List T_api_Cut), lnsOK n xs → (∀ x ∈ xs, lnOK x) → dgOK n ds → (∀ g ∈ ds, ∀ x ∈ xs, g.Line < x.Number) → dgOK n (xs.foldl (FP r d) (ds, c)).1
  | [], ds, c, _, _, h, _ => h
  | x :: xs, ds, c, hx, hk, h, hb => by
    simp only [List.foldl_cons]
    have hxs : lnsOK n xs := ⟨(List.pairwise_cons.1 hx.1).2, fun y hy => hx.2 y (by simp [hy])⟩
    have hlt := (List.pairwise_cons.1 hx.1).1
    have hcut := (cutF_eq (hk x (by simp)) hr [] [] d [] []).2.2
    have hx0 := hx.2 x (by simp)
    unfold FP
    cases hbad : (cutF r d x).2.2
    · simp only [Bool.false_eq_true, if_false]
      exact fold_good hr d n xs ds _ hxs (fun y hy => hk y (by simp [hy])) h (fun g hg y hy => hb g hg y (by simp [hy]))
    · simp only [if_true]
      obtain ⟨c1, c2⟩ := hcut hbad
      split
      · refine fold_good hr d n xs _ _ hxs (fun y hy => hk y (by simp [hy])) ⟨?_, fun g hg => ?_⟩ (fun g hg y hy => ?_)
        · rw [List.pairwise_append]
          refine ⟨h.1, by simp, fun a ha b hb2 => ?_⟩
          simp at hb2; subst hb2
          rw [c1]; exact hb a ha x (by simp)
        · rcases List.mem_append.1 hg with hg | hg
          · exact h.2 g hg
          · simp at hg; subst hg; rw [c1]; exact ⟨hx0.1, hx0.2.1, c2⟩
        · rcases List.mem_append.1 hg with hg | hg
          · exact hb g hg y (by simp [hy])
          · simp at hg; subst hg; rw [c1]; exact hlt y hy
      · exact fold_good hr d n xs _ _ hxs (fun y hy => hk y (by simp [hy])) h (fun g hg y hy => hb g hg y (by simp [hy]))
theorem Parse_both (src : List UInt8) : ∃ t r d cs ds, g_edl_Parse src = some (⟨t, r, d, cs⟩, ds) ∧ g_ref44_Parse src = some (⟨t, r, d, cs⟩, ds) ∧ (0 ≤ r ∧ r ≤ 255) ∧ t.length ≤ 1000 ∧ cs.length ≤ 262145 ∧ (ds = [] → chkS t r d cs = 0) ∧ (ds ≠ [] → cs = []) ∧ ds.length ≤ 50 ∧ dgOK (spL src).length ds := by
  have hsp := (spL_len src).1
  have one : ∀ c : Int, c ≠ 0 → dgOK (spL src).length [⟨1, 1, c⟩] := fun c hc => ⟨by simp, fun x hx => by simp at hx; subst hx; exact ⟨by dsimp only; omega, by dsimp only; omega, hc⟩⟩
  unfold g_edl_Parse g_ref44_Parse
  rw [lines_Split_eq, Split_n_eq]
  have hsm := splitS_small src
  have htx := splitS_texts src
  have hgd := splitS_good src
  generalize splitS src = p at *
  obtain ⟨ls, ds⟩ := p
  dsimp only at hsm htx hgd
  simp only [Option.bind_some]
  cases ds with
  | cons g gs =>
    have e1 : decide ((0 : Int) < ((g :: gs).length : Int)) = true := by simp only [List.length_cons, decide_eq_true_eq]; omega
    simp only [e1, if_true, List.isEmpty_cons, Bool.false_eq_true, if_false]
    exact ⟨_, _, _, _, _, rfl, rfl, by omega, by simp, by simp, fun h => (nomatch h), fun _ => rfl, hsm.2.1, hgd.2⟩
  | nil =>
    have e1 : decide ((0 : Int) < (([] : List T_api_Diag).length : Int)) = false := rfl
    simp only [e1, List.isEmpty_nil, Bool.false_eq_true, if_false, if_true]
    cases ls with
    | nil =>
      have e2 : ((([] : List T_api_Line).length : Int) == 0) = true := rfl
      simp only [e2, if_true]
      exact ⟨_, _, _, _, _, rfl, rfl, by omega, by simp, by simp, fun h => (nomatch h), fun _ => rfl, by simp, one 8 (by decide)⟩
    | cons x xs =>
      have a0 : atI (x :: xs) 0 = some x := rfl
      have hx : lnOK x := ⟨hsm.2.2 x (by simp), htx x (by simp)⟩
      have hxs : ∀ y ∈ xs, lnOK y := fun y hy => ⟨hsm.2.2 y (by simp [hy]), htx y (by simp [hy])⟩
      have hlx : xs.length ≤ 262145 := by have := hsm.1; simp at this; omega
      have e2 : (((x :: xs).length : Int) == 0) = false := by rw [beq_eq_false_iff_ne, List.length_cons]; omega
      simp only [e2, Bool.false_eq_true, if_false, a0, Option.bind_some]
      obtain ⟨t, r, d, g, b, h1, h2, h3, h4, h5⟩ := head_both hx (hgd.1.2 x (by simp)).2.2
      rw [h1, h2]
      simp only [Option.bind_some]
      cases b with
      | true =>
        obtain ⟨k1, k2⟩ := h5 rfl
        simp only [if_true, List.isEmpty_cons, Bool.false_eq_true, if_false]
        have hx0 := hgd.1.2 x (by simp)
        exact ⟨_, _, _, _, _, rfl, rfl, by omega, by simp, by simp, fun h => (nomatch h), fun _ => rfl, by simp, ⟨by simp, fun y hy => by simp at hy; subst hy; rw [k1]; exact ⟨hx0.1, hx0.2.1, k2⟩⟩⟩
      | false =>
        simp only [Bool.false_eq_true, if_false, List.isEmpty_nil, if_true]
        have hsub : subL (x :: xs) 1 = some xs := by
          unfold subL
          rw [if_pos ⟨by omega, by simp⟩]
          simp
        rw [hsub]
        simp only [Option.bind_some]
        obtain ⟨p1, p2, p3⟩ := prog_cuts (t := t) (d := d) (ds := []) h3 xs (by omega) hxs
        obtain ⟨q1, q2, q3⟩ := ref_cuts (t := t) (d := d) (g := g) (b := false) h3 xs (by omega) hxs
        rw [p1, q1]
        simp only [Option.bind_some]
        obtain ⟨f1, f2⟩ := folds r d xs [] [] []
        have hg := fold_good h3 d (spL src).length xs [] [] ⟨(List.pairwise_cons.1 hgd.1.1).2, fun y hy => hgd.1.2 y (by simp [hy])⟩ hxs ⟨by simp, by simp⟩ (by simp)
        rw [← f1] at q2 ⊢
        generalize hP : xs.foldl (FP r d) ([], []) = P at *
        generalize hQ : xs.foldl (FQ r d) ([], []) = Q at *
        cases hd : P.1 with
        | cons a l =>
          have e3 : decide ((0 : Int) < ((a :: l).length : Int)) = true := by simp only [List.length_cons, decide_eq_true_eq]; omega
          have f3 : Q.1 = a :: l := by rw [← f1]; exact hd
          simp only [e3, f3, if_true]
          refine ⟨_, _, _, _, _, rfl, rfl, by omega, by simp, by simp, fun h => (nomatch h), fun _ => rfl, ?_, ?_⟩
          · rw [← hd]; exact p2
          · rw [← hd]; exact hg
        | nil =>
          have hc := (f2 hd).2 rfl
          have f3 : Q.1 = [] := by rw [← f1]; exact hd
          simp only [f3, e1, Bool.false_eq_true, if_false]
          rw [prog_Check _ h3 (by dsimp only; omega), ref_Check _ h3 (by dsimp only; omega), ← hc]
          simp only [Option.bind_some]
          by_cases hk : chkS t r d P.2 = 0
          · rw [if_neg (by simpa using hk), if_neg (by simpa using hk)]
            exact ⟨_, _, _, _, _, rfl, rfl, h3, h4, by omega, fun _ => hk, fun h => absurd rfl h, by simp, ⟨by simp, by simp⟩⟩
          · rw [if_pos (by simpa using hk), if_pos (by simpa using hk)]
            exact ⟨_, _, _, _, _, rfl, rfl, by omega, by simp, by simp, fun h => (nomatch h), fun _ => rfl, by simp, one _ hk⟩
end Go.Proofs.YtnjjdbljoligdaaGreatDoor
namespace Go.Proofs.YtnjjdbljoligdaaGreatDoor
set_option maxRecDepth 100000
theorem same_loop (a b : TRL) (h : a.Cuts = b.Cuts) (hn : a.Cuts.length ≤ 1000000) : iter (g_ref44_Same_s1 a b) 0 = some (.inr ()) := by
  refine iter_idx a.Cuts.length (by omega) (fun _ => Sum.inr ()) (fun i hi => .inl ⟨?_, rfl⟩) ?_
  · unfold g_ref44_Same_s1
    rw [if_pos (by simpa using hi), ← h, atI_nat hi, wr64 (by omega)]
    simp
  · unfold g_ref44_Same_s1
    rw [if_neg (by simp)]
theorem same_self (l : TRL) (hn : l.Cuts.length ≤ 1000000) : g_ref44_Same l l = some true := by
  unfold g_ref44_Same
  rw [same_loop l l rfl hn]
  simp
theorem diags_self (a : List T_api_Diag) (hn : a.length ≤ 1000000) : g_law44_diags a a = some true := by
  have : iter (g_law44_diags_s1 a a) 0 = some (.inr ()) := by
    refine iter_idx a.length (by omega) (fun _ => Sum.inr ()) (fun i hi => .inl ⟨?_, rfl⟩) ?_
    · unfold g_law44_diags_s1
      rw [if_pos (by simpa using hi), atI_nat hi, wr64 (by omega)]
      simp
    · unfold g_law44_diags_s1
      rw [if_neg (by simp)]
  unfold g_law44_diags
  rw [this]
  simp
theorem EdlParses_true (src : List UInt8) : g_law44_EdlParses src = some true := by
  unfold g_law44_EdlParses
  rw [awake44]
  simp only [Option.bind_some, if_true]
  by_cases hl : 6000 < (src.length : Int)
  · simp [hl]
  · simp only [hl, decide_false, Bool.false_eq_true, if_false]
    obtain ⟨t, r, d, cs, ds, h1, h2, h3, h4, h5, h6, h7, h8, h9⟩ := Parse_both src
    rw [h1, h2]
    simp only [Option.bind_some, g_law44_Ref]
    rw [same_self _ (by dsimp only; omega)]
    simp only [Option.bind_some, if_true]
    rw [diags_self _ (by omega)]
    rfl
end Go.Proofs.YtnjjdbljoligdaaGreatDoor
namespace Go.Proofs.YtnjjdbljoligdaaGreatDoor
set_option maxRecDepth 100000
theorem law_EdlParses (s : List UInt8) : AFun Tryz.prog Env8 8 [.str s] (.bool true) :=
  a_law44_EdlParses stabEnv8 (fun _ h => h.2.2.1) (fun _ h => h.2.1) (fun _ h => h.1) (fun _ h => h.2.2.2) (EdlParses_true s)
end Go.Proofs.YtnjjdbljoligdaaGreatDoor
namespace Go.Proofs.YtnjjdbljoligdaaGreatDoor
set_option maxRecDepth 100000
structure CutG (r : Int) (d : Bool) (c : T_api_Cut) : Prop where
  num : 1 ≤ c.Number ∧ c.Number ≤ 999
  reel : isNm c.Reel = true
  src : 0 ≤ c.Source ∧ c.Source < dayS r d
  ein : 0 ≤ c.Record.In ∧ c.Record.In < dayS r d
  out : 0 ≤ c.Record.Out ∧ c.Record.Out < dayS r d
  sp : spOK c.Speed
end Go.Proofs.YtnjjdbljoligdaaGreatDoor



