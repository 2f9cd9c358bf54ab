/- Texts of one proof, put together (S7, S8, S9, S10, S11, S12, S13, S14, S15, S17, S18, EI, Bld2, GB, GJ, EJ, EM, EK, EL, C19, C20, C21, C22, C23, C24, C25, Laid9, LSa, LSc, Opn, OpnB). No condition but those that each theorem states. -/
import Derived.Test.YtalfcmgcjdkolaaGreatDoorX5
import Derived.Test.YtalfcmgcjdkolaaGreatDoorProg
import Derived.Lib.Builder
import Derived.Lib.AppendStr
import Derived.Lib.Join
import Derived.Test.YtalfcmgcjdkolaaGreatDoorCards
import Derived.Test.YtalfcmgcjdkolaaGreatDoorTie
import Derived.ProofKit
import Derived.OpenShut
import Derived.Deep.DeepHandedRow
import Derived.Lib.LaidIn
import Derived.Lib.LaidU8T
import Derived.Shelf.Vars
import Derived.Lib.SmallJoins
import Derived.Deep.Slices
import Derived.Deep.Fields
import Derived.Test.YtalfcmgcjdkolaaGreatDoorRows
set_option linter.unusedSimpArgs false
set_option linter.unusedVariables false
namespace Go.Proofs.YtalfcmgcjdkolaaGreatDoor
set_option maxRecDepth 100000
theorem pth_bd {n : Nat} {fit : Nat → Nat → Bool} {c : Nat → Nat → Int} {K : Int} (hc : ∀ i j, 0 ≤ c i j ∧ c i j ≤ K) : ∀ {r i : Nat} {x : Int}, Pth n fit c r i x → 0 ≤ x ∧ x ≤ (r : Int) * K := by
 intro r i x h
 induction h with
 | nil => simp
 | @cons r i j x _ _ _ _ ih =>
  have := hc i j
  have e : ((r + 1 : Nat) : Int) * K = (r : Int) * K + K := by rw [Int.natCast_add, Int.add_mul]; omega
  omega
abbrev PP (p : A_Pg) := Pth p.Tokens.length (fitP p) (cPr p)
abbrev PA (p : A_Pg) := AtM p.Tokens.length (fitP p) (cPr p)
theorem pp_bd {p : A_Pg} {r i : Nat} {x : Int} (h : PP p r i x) : 0 ≤ x ∧ x ≤ (r : Int) * 33000000 := pth_bd (cPr_le p) h
theorem lst_bd {p : A_Pg} {r i : Nat} {v : Int} (hr : r ≤ 8) (h : Lst (PP p r i) v) : -1 ≤ v ∧ v ≤ 264000000 := by
 by_cases hv : v = -1
 ·omega
 ·have h1 := h.mem hv
  have h2 := pp_bd h1.2.1
  omega
theorem lstA_bd {p : A_Pg} {r i : Nat} {v : Int} (hr : r ≤ 8) (h : Lst (PA p r i) v) : -1 ≤ v ∧ v ≤ 264000000 := by
 by_cases hv : v = -1
 ·omega
 ·obtain ⟨h1, ⟨s, hs, h2⟩, _⟩ := h.mem hv
  have h2 := pp_bd h2
  omega
def RowOK (p : A_Pg) (r : Nat) (row : List Int) : Prop := row.length = p.Tokens.length + 1 ∧ ∀ i, i ≤ p.Tokens.length → ∃ v, row[i]? = some v ∧ Lst (PP p r i) v
theorem getI {α : Type} {l : List α} {i : Nat} {v : α} (h : l[i]? = some v) : atI l (i : Int) = some v := by
 obtain ⟨h1, h2⟩ := List.getElem?_eq_some_iff.1 h
 rw [atI_nat h1, h2]
theorem ex_inner {p : A_Pg} (hv : Pv p) {r i : Nat} (hr : 1 ≤ r) (hr4 : r ≤ 8) (hi : i ≤ p.Tokens.length) {m : List (List Int)} {prev row z : List Int} (hm : m[r - 1]? = some prev) (hp : RowOK p (r - 1) prev) (hrow : row.length = p.Tokens.length + 1) :
  ∃ e, iter (g_rb_sheet_exact_s3 (shP p (aimP p)) (p.Tokens.length : Int) ((r : Int), m) ((i : Int), z)) ((i : Int) + 1, row.set i (-1)) = some e ∧ ∃ v, e = row.set i v ∧ Lst (PP p r i) v := by
 have hn := hv.ok.toks
 refine iter_post (fun x => ∃ (J : Nat) (v : Int), x.1 = (J : Int) ∧ i < J ∧ J ≤ p.Tokens.length + 1 ∧ x.2 = row.set i v ∧ Lst (Cand (fitP p) (cPr p) (PP p (r - 1)) i J) v ∧ -1 ≤ v ∧ v ≤ 264000000) (fun x => p.Tokens.length + 1 - x.1.toNat) (fun e => ∃ v, e = row.set i v ∧ Lst (PP p r i) v) ⟨i + 1, -1, rfl, by omega, by omega, rfl, cand_start _ _, by omega, by omega⟩ (by show p.Tokens.length + 1 - _ < _; omega) ?_
 rintro ⟨x, rw'⟩ ⟨J, v, hx, hiJ, hJ, hrw, hL, hb1, hb2⟩
 dsimp only at hx hrw ⊢
 subst hx hrw
 unfold g_rb_sheet_exact_s3
 dsimp only
 have hfin : (J ≤ p.Tokens.length → fitP p i J = false) → ∃ e, some (Nx.out (row.set i v) : Nx (Int × List Int) (List Int)) = some (.out e) ∧ ∃ v, e = row.set i v ∧ Lst (PP p r i) v := fun hf => by
  refine ⟨_, rfl, v, rfl, ?_⟩
  have := cand_end (n := p.Tokens.length) hJ (fun hle k hk1 hk2 => fit_mono hv hiJ hk1 hk2 (hf hle)) hL
  obtain ⟨r', rfl⟩ : ∃ r', r = r' + 1 := ⟨r - 1, by omega⟩
  exact this.congr fun x => pth_succ.symm
 by_cases hle : J ≤ p.Tokens.length
 ·rw [if_pos (show decide ((J : Int) ≤ (p.Tokens.length : Int)) = true by simpa using hle), fits_eq hv.ok _ hi hle]
  simp only [Option.bind_some]
  cases hf : fitP p i J
  ·right
   exact hfin fun _ => hf
  ·left
   simp only [if_true]
   rw [wr64 (x := (r : Int) - 1) (by omega), show ((r : Int) - 1) = ((r - 1 : Nat) : Int) by omega, getI hm]
   simp only [Option.bind_some]
   rw [if_pos (by omega)]
   obtain ⟨w, hw, hLw⟩ := hp.2 J hle
   have hwb := lst_bd (by omega) hLw
   rw [getI hw, wr64 (x := (J : Int) + 1) (by omega)]
   simp only [Option.bind_some]
   have hstep := cand_step hiJ hf (cPr_le p i J).1 hL hLw
   by_cases h1 : w = -1
   ·rw [if_pos (by simpa using h1)]
    rw [if_pos h1] at hstep
    exact ⟨_, rfl, ⟨J + 1, v, rfl, by omega, by omega, rfl, hstep, hb1, hb2⟩, by dsimp only; omega⟩
   ·rw [if_neg (by simpa using h1), cost_eq hv.ok hiJ hle]
    rw [if_neg h1] at hstep
    simp only [Option.bind_some]
    have hat : (row.set i v)[i]? = some v := by rw [List.getElem?_set, if_pos rfl, if_pos (by omega)]
    have hc := cPr_le p i J
    have hps := hLw.mem h1
    have hpb := pp_bd hps.2.1
    rw [getI hat, wr64 (x := cPr p i J + w) (by omega)]
    simp only [Option.bind_some]
    have hcw : cPr p i J + w ≤ 264000000 := by
     have : ((r - 1 : Nat) : Int) ≤ 7 := by omega
     omega
    by_cases h2 : v = -1 ∨ cPr p i J + w < v
    ·rw [if_pos h2] at hstep
     have hcond : (if (v == -1) = true then some true else some (decide (cPr p i J + w < v)) : Option Bool) = some true := by
      rcases h2 with h2 | h2
      ·simp [h2]
      ·simp [h2]
     rw [hcond]
     simp only [Option.bind_some, if_true]
     rw [setI_nat _ (by rw [List.length_set]; omega), List.set_set]
     exact ⟨_, rfl, ⟨J + 1, cPr p i J + w, rfl, by omega, by omega, rfl, hstep, by omega, hcw⟩, by dsimp only; omega⟩
    ·rw [if_neg h2] at hstep
     have hcond : (if (v == -1) = true then some true else some (decide (cPr p i J + w < v)) : Option Bool) = some false := by
      have a1 : ¬ v = -1 := fun e => h2 (.inl e)
      have a2 : ¬ cPr p i J + w < v := fun e => h2 (.inr e)
      simp [a1, a2]
     rw [hcond]
     simp only [Option.bind_some, Bool.false_eq_true, if_false]
     exact ⟨_, rfl, ⟨J + 1, v, rfl, by omega, by omega, rfl, hstep, hb1, hb2⟩, by dsimp only; omega⟩
 ·right
  rw [if_neg (by simpa using hle)]
  simp only [Option.bind_some, Bool.false_eq_true, if_false]
  exact hfin fun h => absurd h hle
theorem ex_row {p : A_Pg} (hv : Pv p) {r : Nat} (hr : 1 ≤ r) (hr4 : r ≤ 8) {m : List (List Int)} {prev m0 : List Int} (hm : m[r - 1]? = some prev) (hp : RowOK p (r - 1) prev) (h0 : m0.length = p.Tokens.length + 1) :
  ∃ e, iter (g_rb_sheet_exact_s2 (shP p (aimP p)) (p.Tokens.length : Int) ((r : Int), m) m0) (0, m0) = some e ∧ RowOK p r e := by
 have hn := hv.ok.toks
 refine iter_post (fun x => ∃ i : Nat, x.1 = (i : Int) ∧ i ≤ p.Tokens.length + 1 ∧ x.2.length = p.Tokens.length + 1 ∧ ∀ k, k < i → ∃ v, x.2[k]? = some v ∧ Lst (PP p r k) v) (fun x => p.Tokens.length + 1 - x.1.toNat) (RowOK p r) (x := (0, m0)) ⟨0, rfl, by omega, h0, fun k hk => by omega⟩ (by show p.Tokens.length + 1 - _ < _; omega) ?_
 rintro ⟨x, row⟩ ⟨i, hx, hi, hl, hk⟩
 dsimp only at hx hl hk ⊢
 subst hx
 unfold g_rb_sheet_exact_s2
 dsimp only
 rw [h0]
 by_cases hlt : i ≤ p.Tokens.length
 ·left
  rw [if_pos (by simp; omega), atI_nat (by omega), setI_nat _ (by omega)]
  simp only [Option.bind_some]
  rw [if_neg (by simp; omega), wr64 (x := (i : Int) + 1) (by omega)]
  obtain ⟨e, he, v, rfl, hL⟩ := ex_inner hv hr hr4 hlt (z := row) hm hp hl
  rw [he]
  refine ⟨_, rfl, ⟨i + 1, rfl, by omega, by rw [List.length_set]; exact hl, fun k hk2 => ?_⟩, by dsimp only; omega⟩
  by_cases e : k = i
  ·subst e
   exact ⟨v, by rw [List.getElem?_set, if_pos rfl, if_pos (by omega)], hL⟩
  ·obtain ⟨w, hw, hLw⟩ := hk k (by omega)
   exact ⟨w, by rw [List.getElem?_set, if_neg (by omega)]; exact hw, hLw⟩
 ·right
  rw [if_neg (by simp; omega)]
  exact ⟨_, rfl, hl, fun k hk2 => hk k (by omega)⟩
theorem ex_row0 {p : A_Pg} (hv : Pv p) {m : List (List Int)} {m0 : List Int} (h0 : m0.length = p.Tokens.length + 1) :
  ∃ e, iter (g_rb_sheet_exact_s2 (shP p (aimP p)) (p.Tokens.length : Int) (0, m) m0) (0, m0) = some e ∧ e.length = p.Tokens.length + 1 ∧ ∀ k, k ≤ p.Tokens.length → e[k]? = some (-1) := by
 have hn := hv.ok.toks
 refine iter_post (fun x => ∃ i : Nat, x.1 = (i : Int) ∧ i ≤ p.Tokens.length + 1 ∧ x.2.length = p.Tokens.length + 1 ∧ ∀ k, k < i → x.2[k]? = some (-1)) (fun x => p.Tokens.length + 1 - x.1.toNat) (fun (e : List Int) => e.length = p.Tokens.length + 1 ∧ ∀ k, k ≤ p.Tokens.length → e[k]? = some (-1)) (x := (0, m0)) ⟨0, rfl, by omega, h0, fun k hk => by omega⟩ (by show p.Tokens.length + 1 - _ < _; omega) ?_
 rintro ⟨x, row⟩ ⟨i, hx, hi, hl, hk⟩
 dsimp only at hx hl hk ⊢
 subst hx
 unfold g_rb_sheet_exact_s2
 dsimp only
 rw [h0]
 by_cases hlt : i ≤ p.Tokens.length
 ·left
  rw [if_pos (by simp; omega), atI_nat (by omega), setI_nat _ (by omega)]
  simp only [Option.bind_some]
  rw [if_pos (by rfl), wr64 (x := (i : Int) + 1) (by omega)]
  refine ⟨_, rfl, ⟨i + 1, rfl, by omega, by rw [List.length_set]; exact hl, fun k hk2 => ?_⟩, by dsimp only; omega⟩
  by_cases e : k = i
  ·subst e
   rw [List.getElem?_set, if_pos rfl, if_pos (by omega)]
  ·rw [List.getElem?_set, if_neg (by omega)]
   exact hk k (by omega)
 ·right
  rw [if_neg (by simp; omega)]
  exact ⟨_, rfl, hl, fun k hk2 => hk k (by omega)⟩
def TabOK (p : A_Pg) (R : Nat) (f : List (List Int)) : Prop := f.length = R + 1 ∧ ∀ r, r ≤ R → ∃ row, f[r]? = some row ∧ RowOK p r row
theorem exact_key {p : A_Pg} (hv : Pv p) {R : Nat} (hrw : R ≤ 4) : ∃ f, iter (g_rb_sheet_exact_s1 (shP p (aimP p)) (p.Tokens.length : Int) (List.replicate (R + 1) ([] : List Int))) (0, List.replicate (R + 1) ([] : List Int)) = some f ∧ TabOK p R f := by
 have hn := hv.ok.toks
 refine iter_post (fun x => ∃ r : Nat, x.1 = (r : Int) ∧ r ≤ R + 1 ∧ x.2.length = R + 1 ∧ ∀ k, k < r → ∃ row, x.2[k]? = some row ∧ RowOK p k row) (fun x => R + 1 - x.1.toNat) (TabOK p R) (x := (0, _)) ⟨0, rfl, by omega, by simp, fun k hk => by omega⟩ (by show R + 1 - _ < _; omega) ?_
 rintro ⟨x, m⟩ ⟨r, hx, hr, hl, hk⟩
 dsimp only at hx hl hk ⊢
 subst hx
 unfold g_rb_sheet_exact_s1
 dsimp only
 by_cases hlt : r ≤ R
 ·left
  rw [if_pos (by simp; omega), wr64 (x := (p.Tokens.length : Int) + 1) (by omega), show ((p.Tokens.length : Int) + 1) = ((p.Tokens.length + 1 : Nat) : Int) by omega, mkI_nat 8 (p.Tokens.length + 1) _ (by omega) (by omega)]
  simp only [Option.bind_some]
  rw [atI_nat (show r < m.length by omega)]
  simp only [Option.bind_some]
  have hset : ∀ row, RowOK p r row → (∃ r' : Nat, ((r : Int) + 1) = (r' : Int) ∧ r' ≤ R + 1 ∧ (m.set (r : Int).toNat row).length = R + 1 ∧ ∀ k, k < r' → ∃ row', (m.set (r : Int).toNat row)[k]? = some row' ∧ RowOK p k row') := fun row hrow => by
   refine ⟨r + 1, by omega, by omega, by rw [List.length_set]; exact hl, fun k hk2 => ?_⟩
   rw [Int.toNat_natCast]
   by_cases e : k = r
   ·subst e
    exact ⟨row, by rw [List.getElem?_set, if_pos rfl, if_pos (by omega)], hrow⟩
   ·obtain ⟨w, hw, hLw⟩ := hk k (by omega)
    exact ⟨w, by rw [List.getElem?_set, if_neg (by omega)]; exact hw, hLw⟩
  have hzl : (List.replicate (p.Tokens.length + 1) (0 : Int)).length = p.Tokens.length + 1 := by simp
  rw [wr64 (x := (r : Int) + 1) (by omega)]
  by_cases hr0 : r = 0
  ·subst hr0
   obtain ⟨e, he, hel, hall⟩ := ex_row0 hv (m := m) hzl
   simp only [Int.natCast_zero] at hset ⊢
   rw [he]
   simp only [Option.bind_some, beq_self_eq_true, if_true]
   have a0 := atI_nat (l := m) (n := 0) (by omega)
   simp only [Int.natCast_zero] at a0
   rw [a0]
   simp only [Option.bind_some]
   rw [atI_nat (show p.Tokens.length < e.length by omega), setI_nat _ (by omega)]
   simp only [Option.bind_some]
   refine ⟨_, rfl, hset _ ⟨by rw [List.length_set]; exact hel, fun i hi => ?_⟩, by dsimp only; omega⟩
   by_cases e2 : i = p.Tokens.length
   ·subst e2
    exact ⟨0, by rw [List.getElem?_set, if_pos rfl, if_pos (by omega)], .inr ⟨by omega, .nil, fun x hx => by rw [(pth_zero.1 hx).2]; omega⟩⟩
   ·exact ⟨-1, by rw [List.getElem?_set, if_neg (by omega)]; exact hall i hi, .inl ⟨rfl, fun x hx => e2 (pth_zero.1 hx).1⟩⟩
  ·obtain ⟨prev, hpv, hpr⟩ := hk (r - 1) (by omega)
   obtain ⟨e, he, hel⟩ := ex_row hv (r := r) (by omega) (by omega) hpv hpr hzl
   rw [he]
   simp only [Option.bind_some]
   rw [if_neg (by simp; omega)]
   exact ⟨_, rfl, hset _ hel, by dsimp only; omega⟩
 ·right
  rw [if_neg (by simp; omega)]
  exact ⟨_, rfl, hl, fun k hk2 => hk k (by omega)⟩
theorem exact_eq {p : A_Pg} (hv : Pv p) : ∃ f, g_rb_sheet_exact (shP p (aimP p)) = some f ∧ TabOK p p.Rows.toNat f := by
 have hn := hv.ok.toks
 have hrw := hv.rows
 obtain ⟨R, hR⟩ : ∃ R : Nat, p.Rows = (R : Int) := ⟨p.Rows.toNat, by omega⟩
 obtain ⟨f, h1, h2⟩ := exact_key hv (R := R) (by omega)
 refine ⟨f, ?_, by rw [hR]; exact h2⟩
 have e1 : (shP p (aimP p)).p_ = p := rfl
 have e2 : IntKind.i64.wrap (p.Rows + 1) = ((R + 1 : Nat) : Int) := by rw [wr64 (by omega)]; omega
 simp only [g_rb_sheet_exact, g_rb_sheet_n, e1, e2, Option.bind_some, mkI_nat 24 (R + 1) ([] : List Int) (by omega) (by omega), h1]
theorem idx_inj {n k i k' i' : Nat} (hi : i ≤ n) (hi' : i' ≤ n) (h : k * (n + 1) + i = k' * (n + 1) + i') : k = k' ∧ i = i' := by
 have e : k = k' := by
  rcases Nat.lt_trichotomy k k' with h1 | h1 | h1
  ·have := Nat.mul_le_mul_right (n + 1) (show k + 1 ≤ k' from h1)
   rw [Nat.add_mul] at this; omega
  ·exact h1
  ·have := Nat.mul_le_mul_right (n + 1) (show k' + 1 ≤ k from h1)
   rw [Nat.add_mul] at this; omega
 subst e
 exact ⟨rfl, by omega⟩
theorem idx_lt {n k i R : Nat} (hi : i ≤ n) (hk : k ≤ R) : k * (n + 1) + i < (R + 1) * (n + 1) := by
 have := Nat.mul_le_mul_right (n + 1) (show k + 1 ≤ R + 1 by omega)
 rw [Nat.add_mul] at this; omega
theorem idx_bd {n k i : Nat} (hn : n ≤ 8) (hk : k ≤ 5) (hi : i ≤ n) : k * (n + 1) + i ≤ 100 := by
 have := Nat.mul_le_mul hk (show n + 1 ≤ 9 by omega)
 omega
def PotAt (p : A_Pg) (R : Nat) (l : List Int) (k i : Nat) : Prop := ∃ v, l[k * (p.Tokens.length + 1) + i]? = some v ∧ Lst (PA p (R - k) i) v
def PotOK (p : A_Pg) (R : Nat) (l : List Int) : Prop := l.length = (R + 1) * (p.Tokens.length + 1) ∧ ∀ k i, k ≤ R → i ≤ p.Tokens.length → PotAt p R l k i
theorem pot_uniq {p : A_Pg} {R : Nat} {l l' : List Int} (h : PotOK p R l) (h' : PotOK p R l') : l = l' := by
 refine List.ext_getElem? fun m => ?_
 by_cases hm : m < (R + 1) * (p.Tokens.length + 1)
 ·have e : m / (p.Tokens.length + 1) * (p.Tokens.length + 1) + m % (p.Tokens.length + 1) = m := by
   have := Nat.div_add_mod m (p.Tokens.length + 1)
   rw [Nat.mul_comm] at this; exact this
  have h1 : m / (p.Tokens.length + 1) ≤ R := by
   have : m / (p.Tokens.length + 1) < R + 1 := Nat.div_lt_of_lt_mul (by rw [Nat.mul_comm]; exact hm)
   omega
  have h2 : m % (p.Tokens.length + 1) ≤ p.Tokens.length := by
   have := Nat.mod_lt m (show 0 < p.Tokens.length + 1 by omega)
   omega
  obtain ⟨v, a1, a2⟩ := h.2 _ _ h1 h2
  obtain ⟨w, b1, b2⟩ := h'.2 _ _ h1 h2
  rw [e] at a1 b1
  rw [a1, b1, a2.uniq b2]
 ·rw [List.getElem?_eq_none (by rw [h.1]; omega), List.getElem?_eq_none (by rw [h'.1]; omega)]
theorem idx_w {n k i : Nat} (hn : n ≤ 8) (hk : k ≤ 5) (hi : i ≤ n) : IntKind.i64.wrap ((IntKind.i64.wrap ((k : Int) * (IntKind.i64.wrap ((n : Int) + 1)))) + (i : Int)) = ((k * (n + 1) + i : Nat) : Int) := by
 have hb := idx_bd hn hk hi
 have e : (k : Int) * ((n : Int) + 1) = ((k * (n + 1) : Nat) : Int) := by
  rw [Int.natCast_mul]; rfl
 rw [wr64 (x := (n : Int) + 1) (by omega), e]
 have key : ∀ g : Nat, g + i ≤ 100 → IntKind.i64.wrap (IntKind.i64.wrap (g : Int) + (i : Int)) = ((g + i : Nat) : Int) := fun g hg => by
  rw [wr64 (x := (g : Int)) (by omega), wr64 (by omega)]; omega
 exact key _ hb
theorem pot_inner {p : A_Pg} (hv : Pv p) {R k i : Nat} (hR : p.Rows = (R : Int)) (hk : k ≤ R) (hi : i < p.Tokens.length) {l z : List Int} (hl : ∀ j, k < R → j ≤ p.Tokens.length → PotAt p R l (k + 1) j) :
  ∃ e, iter (g_ref36_potentials_s3 p ((k : Int), z) ((i : Int), l)) (-1, (i : Int) + 1) = some e ∧ Lst (PA p (R - k) i) e := by
 have hn := hv.ok.toks
 have hrw := hv.rows
 by_cases hkR : k < R
 rotate_left
 ·obtain rfl : k = R := by omega
  have h0 : Lst (PA p (k - k) i) (-1) := .inl ⟨rfl, fun x hx => by
   rw [Nat.sub_self] at hx
   exact atm_zero (by omega) hx⟩
  refine iter_post (fun x => x.1 = -1) (fun x => 0) (fun e => Lst (PA p (k - k) i) e) rfl (by decide) ?_
  rintro ⟨b, x⟩ hb
  dsimp only at hb
  subst hb
  right
  unfold g_ref36_potentials_s3
  dsimp only
  rw [hR]
  rw [show (if decide (x ≤ (p.Tokens.length : Int)) = true then (if decide ((k : Int) < (k : Int)) = true then (g_ref36_Fits p (i : Int) x).bind fun r => some r else some false) else some false : Option Bool) = some false by simp]
  exact ⟨_, rfl, h0⟩
 obtain ⟨m, hm⟩ : ∃ m, R - k = m + 1 := ⟨R - k - 1, by omega⟩
 have hm2 : R - (k + 1) = m := by omega
 refine iter_post (fun x => ∃ J : Nat, x.2 = (J : Int) ∧ i < J ∧ J ≤ p.Tokens.length + 1 ∧ Lst (Cand (fitP p) (cPr p) (PA p m) i J) x.1 ∧ -1 ≤ x.1 ∧ x.1 ≤ 400000000) (fun x => p.Tokens.length + 1 - x.2.toNat) (fun e => Lst (PA p (R - k) i) e) (x := (-1, (i : Int) + 1)) ⟨i + 1, rfl, by omega, by omega, cand_start _ _, by omega, by omega⟩ (by show p.Tokens.length + 1 - _ < _; omega) ?_
 rintro ⟨b, x⟩ ⟨J, hx, hiJ, hJ, hL, hb1, hb2⟩
 dsimp only at hx hL hb1 hb2 ⊢
 subst hx
 unfold g_ref36_potentials_s3
 dsimp only
 have hfin : (J ≤ p.Tokens.length → fitP p i J = false) → Lst (PA p (R - k) i) b := fun hf => by
  have := cand_end (n := p.Tokens.length) hJ (fun hle k hk1 hk2 => fit_mono hv hiJ hk1 hk2 (hf hle)) hL
  rw [hm]
  exact this.congr fun x => (atm_succ (by omega)).symm
 by_cases hle : J ≤ p.Tokens.length
 ·rw [if_pos (show decide ((J : Int) ≤ (p.Tokens.length : Int)) = true by simpa using hle), if_pos (show decide ((k : Int) < p.Rows) = true by rw [hR]; simpa using hkR), refFits_eq hv.ok hiJ hle]
  simp only [Option.bind_some]
  cases hf : fitP p i J
  ·right
   exact ⟨_, rfl, hfin fun _ => hf⟩
  ·left
   simp only [if_true]
   rw [wr64 (x := (k : Int) + 1) (by omega), show ((k : Int) + 1) = ((k + 1 : Nat) : Int) by omega, idx_w hn (by omega) hle]
   obtain ⟨w, hw, hLw⟩ := hl J hkR hle
   rw [hm2] at hLw
   have hwb := lstA_bd (by omega) hLw
   have hc := cPr_le p i J
   rw [getI hw, refRow_eq hv.ok hiJ hle, wr64 (x := (J : Int) + 1) (by omega)]
   simp only [Option.bind_some]
   have hstep := cand_step hiJ hf hc.1 hL hLw
   by_cases h1 : w = -1
   ·rw [if_pos h1] at hstep
    rw [if_pos (show decide (w < 0) = true by simp; omega)]
    exact ⟨_, rfl, ⟨J + 1, rfl, by omega, by omega, hstep, hb1, hb2⟩, by dsimp only; omega⟩
   ·rw [if_neg h1] at hstep
    rw [if_neg (show ¬ decide (w < 0) = true by simp; omega), wr64 (x := cPr p i J + w) (by omega)]
    by_cases h2 : b = -1 ∨ cPr p i J + w < b
    ·rw [if_pos h2] at hstep
     have hcond : (if decide (b < 0) = true then some (cPr p i J + w) else if decide (cPr p i J + w < b) = true then some (cPr p i J + w) else some b : Option Int) = some (cPr p i J + w) := by
      rcases h2 with h2 | h2
      ·simp [h2]
      ·simp [h2]
     rw [hcond]
     exact ⟨_, rfl, ⟨J + 1, rfl, by omega, by omega, hstep, by omega, by omega⟩, by dsimp only; omega⟩
    ·rw [if_neg h2] at hstep
     have hcond : (if decide (b < 0) = true then some (cPr p i J + w) else if decide (cPr p i J + w < b) = true then some (cPr p i J + w) else some b : Option Int) = some b := by
      rw [if_neg (by simp; omega), if_neg (by simp; omega)]
     rw [hcond]
     exact ⟨_, rfl, ⟨J + 1, rfl, by omega, by omega, hstep, hb1, hb2⟩, by dsimp only; omega⟩
 ·right
  rw [if_neg (by simpa using hle)]
  simp only [Option.bind_some, Bool.false_eq_true, if_false]
  exact ⟨_, rfl, hfin fun h => absurd h hle⟩
structure PInv (p : A_Pg) (R m : Nat) (l : List Int) : Prop where
 len : l.length = (R + 1) * (p.Tokens.length + 1)
 col : ∀ k, k ≤ R → l[k * (p.Tokens.length + 1) + p.Tokens.length]? = some 0
 done : ∀ k i, m ≤ k → k ≤ R → i ≤ p.Tokens.length → PotAt p R l k i
theorem lst_n (p : A_Pg) (m : Nat) : Lst (PA p m p.Tokens.length) 0 := .inr ⟨by omega, atm_n.2 rfl, fun x hx => by rw [atm_n.1 hx]; omega⟩
theorem pot_row {p : A_Pg} (hv : Pv p) {R k : Nat} (hR : p.Rows = (R : Int)) (hk : k ≤ R) {l0 : List Int} (h0 : PInv p R (k + 1) l0) :
  ∃ e, iter (g_ref36_potentials_s2 p ((k : Int), l0)) ((p.Tokens.length : Int) - 1, l0) = some e ∧ PInv p R k e := by
 have hn := hv.ok.toks
 have hrw := hv.rows
 refine iter_post (fun x => ∃ m : Nat, x.1 = (m : Int) - 1 ∧ m ≤ p.Tokens.length ∧ PInv p R (k + 1) x.2 ∧ ∀ i, m ≤ i → i ≤ p.Tokens.length → PotAt p R x.2 k i) (fun x => (x.1 + 1).toNat) (PInv p R k) (x := ((p.Tokens.length : Int) - 1, l0)) ⟨p.Tokens.length, rfl, by omega, h0, fun i h1 h2 => ?_⟩ (by show ((p.Tokens.length : Int) - 1 + 1).toNat < _; omega) ?_
 ·obtain rfl : i = p.Tokens.length := by omega
  exact ⟨0, h0.col k hk, lst_n p _⟩
 rintro ⟨x, l⟩ ⟨m, hx, hm, hI, hd⟩
 dsimp only at hx hI hd ⊢
 subst hx
 unfold g_ref36_potentials_s2
 dsimp only
 cases m with
 | zero =>
  right
  rw [if_neg (by simp)]
  refine ⟨_, rfl, hI.len, hI.col, fun k' i h1 h2 h3 => ?_⟩
  by_cases e : k' = k
  ·subst e; exact hd i (by omega) h3
  ·exact hI.done k' i (by omega) h2 h3
 | succ i =>
  left
  rw [show ((i + 1 : Nat) : Int) - 1 = (i : Int) by omega, if_pos (by simp), wr64 (x := (i : Int) + 1) (by omega), idx_w hn (by omega) (by omega), wr64 (x := (i : Int) - 1) (by omega)]
  obtain ⟨v, he, hL⟩ := pot_inner hv hR hk (i := i) (by omega) (l := l) (z := l0) (fun j h1 h2 => hI.done (k + 1) j (by omega) (by omega) h2)
  have hlt : k * (p.Tokens.length + 1) + i < l.length := by rw [hI.len]; exact idx_lt (by omega) hk
  rw [he]
  simp only [Option.bind_some]
  rw [atI_nat hlt, setI_nat _ hlt]
  have hne : ∀ k' i', i' ≤ p.Tokens.length → (k' ≠ k ∨ i' ≠ i) → (l.set (k * (p.Tokens.length + 1) + i) v)[k' * (p.Tokens.length + 1) + i']? = l[k' * (p.Tokens.length + 1) + i']? := fun k' i' h1 h2 => by
   rw [List.getElem?_set, if_neg]
   intro e
   have := idx_inj (by omega) h1 e
   omega
  have hsame : PotAt p R (l.set (k * (p.Tokens.length + 1) + i) v) k i := ⟨v, by rw [List.getElem?_set, if_pos rfl, if_pos hlt], hL⟩
  refine ⟨_, rfl, ⟨i, rfl, by omega, ⟨by rw [List.length_set]; exact hI.len, fun k' h => ?_, fun k' i' h1 h2 h3 => ?_⟩, fun i' h1 h2 => ?_⟩, by dsimp only; omega⟩
  ·dsimp only
   rw [hne k' _ (by omega) (.inr (by omega))]
   exact hI.col k' h
  ·obtain ⟨w, hw, hLw⟩ := hI.done k' i' h1 h2 h3
   exact ⟨w, by dsimp only; rw [hne k' i' h3 (.inl (by omega))]; exact hw, hLw⟩
  ·by_cases e : i' = i
   ·subst e; exact hsame
   ·obtain ⟨w, hw, hLw⟩ := hd i' (by omega) h2
    exact ⟨w, by dsimp only; rw [hne k i' h2 (.inr e)]; exact hw, hLw⟩
theorem pot_key {p : A_Pg} (hv : Pv p) {R : Nat} (hR : p.Rows = (R : Int)) {l0 : List Int} (h0 : PInv p R (R + 1) l0) : ∃ e, iter (g_ref36_potentials_s1 p) ((R : Int), l0) = some e ∧ PInv p R 0 e := by
 have hn := hv.ok.toks
 have hrw := hv.rows
 refine iter_post (fun x => ∃ m : Nat, x.1 = (m : Int) - 1 ∧ m ≤ R + 1 ∧ PInv p R m x.2) (fun x => (x.1 + 1).toNat) (PInv p R 0) (x := ((R : Int), l0)) ⟨R + 1, by show (R : Int) = _; omega, by omega, h0⟩ (by show ((R : Int) + 1).toNat < _; omega) ?_
 rintro ⟨x, l⟩ ⟨m, hx, hm, hI⟩
 dsimp only at hx hI ⊢
 subst hx
 unfold g_ref36_potentials_s1
 dsimp only
 cases m with
 | zero =>
  right
  rw [if_neg (by simp)]
  exact ⟨_, rfl, hI⟩
 | succ k =>
  left
  rw [show ((k + 1 : Nat) : Int) - 1 = (k : Int) by omega, if_pos (by simp), wr64 (x := (p.Tokens.length : Int) - 1) (by omega), wr64 (x := (k : Int) - 1) (by omega)]
  obtain ⟨e, he, hI2⟩ := pot_row hv hR (k := k) (by omega) hI
  rw [he]
  exact ⟨_, rfl, ⟨k, rfl, by omega, hI2⟩, by dsimp only; omega⟩
theorem pot_eq {p : A_Pg} (hv : Pv p) : ∃ l, g_ref36_potentials p = some l ∧ PotOK p p.Rows.toNat l := by
 have hn := hv.ok.toks
 have hrw := hv.rows
 obtain ⟨R, hR⟩ : ∃ R : Nat, p.Rows = (R : Int) := ⟨p.Rows.toNat, by omega⟩
 have h0 : PInv p R (R + 1) (List.replicate ((R + 1) * (p.Tokens.length + 1)) (0 : Int)) := ⟨by simp, fun k hk => by
  rw [List.getElem?_replicate, if_pos (idx_lt (by omega) hk)], fun k i h1 h2 _ => by omega⟩
 obtain ⟨l, h1, h2⟩ := pot_key hv hR h0
 refine ⟨l, ?_, h2.len.trans (by rw [hR]; rfl), fun k i hk hi => ?_⟩
 ·have hb := idx_bd hn (show R + 1 ≤ 5 by omega) (show 0 ≤ p.Tokens.length by omega)
  have e1 : (IntKind.i64.wrap ((IntKind.i64.wrap (p.Rows + 1)) * (IntKind.i64.wrap ((p.Tokens.length : Int) + 1)))) = (((R + 1) * (p.Tokens.length + 1) : Nat) : Int) := by
   rw [hR, wr64 (x := (R : Int) + 1) (by omega), wr64 (x := (p.Tokens.length : Int) + 1) (by omega)]
   have e : ((R : Int) + 1) * ((p.Tokens.length : Int) + 1) = (((R + 1) * (p.Tokens.length + 1) : Nat) : Int) := by
    rw [Int.natCast_mul]; rfl
   rw [e, wr64 (by omega)]
  rw [hR] at e1
  simp only [g_ref36_potentials, hR, e1, mkI_nat 8 ((R + 1) * (p.Tokens.length + 1)) (0 : Int) (by omega) (by omega), Option.bind_some, h1]
 ·rw [hR, Int.toNat_natCast] at hk ⊢
  exact h2.done k i (by omega) hk hi
def parQ (p : A_Pg) (r : Int) : A_Pg := ⟨p.Tokens, p.Width, r, p.Table⟩
theorem smP_q (p : A_Pg) (r : Int) : ∀ k, smP (parQ p r) k = smP p k
 | 0 => rfl
 | k + 1 => by
  rw [show smP (parQ p r) (k + 1) = smP (parQ p r) k + tlen (parQ p r) k from rfl, smP_q p r k]; rfl
theorem lnP_q (p : A_Pg) (r : Int) (i j : Nat) : lnP (parQ p r) i j = lnP p i j := by unfold lnP; rw [smP_q, smP_q]
theorem fitP_q (p : A_Pg) (r : Int) : fitP (parQ p r) = fitP p := by
 funext i j; unfold fitP; rw [lnP_q]; rfl
theorem cPr_q (p : A_Pg) (r : Int) : cPr (parQ p r) = cPr p := by
 funext i j
 have : aimP (parQ p r) = aimP p := by unfold aimP; rw [lnP_q]; rfl
 unfold cPr; rw [lnP_q, this]; rfl
theorem PA_q (p : A_Pg) (r : Int) : PA (parQ p r) = PA p := by
 unfold PA; rw [fitP_q, cPr_q]; rfl
theorem Pv_q {p : A_Pg} (h : Pv p) {r : Int} (hr : 1 ≤ r ∧ r ≤ 4) : Pv (parQ p r) := ⟨⟨h.ok.toks, h.ok.texts⟩, h.ne, h.tok, h.width, hr, h.table⟩
theorem PotOK_q {p : A_Pg} {r : Int} {R : Nat} {l : List Int} (h : PotOK (parQ p r) R l) : PotOK p R l := by
 refine ⟨h.1, fun k i hk hi => ?_⟩
 obtain ⟨v, h1, h2⟩ := h.2 k i hk hi
 exact ⟨v, h1, by rw [PA_q] at h2; exact h2⟩
def fE (f : List (List Int)) (r i : Nat) : Int := ((f[r]?.getD [])[i]?).getD (-1)
theorem fE_ok {p : A_Pg} {R : Nat} {f : List (List Int)} (h : TabOK p R f) : ∀ r i, r ≤ R → i ≤ p.Tokens.length → Lst (Pth p.Tokens.length (fitP p) (cPr p) r i) (fE f r i) := fun r i hr hi => by
 obtain ⟨row, h1, h2⟩ := h.2 r hr
 obtain ⟨v, h3, h4⟩ := h2.2 i hi
 unfold fE
 rw [h1, Option.getD_some, h3, Option.getD_some]
 exact h4
theorem fE_at {p : A_Pg} {R : Nat} {f : List (List Int)} (h : TabOK p R f) {r i : Nat} (hr : r ≤ R) (hi : i ≤ p.Tokens.length) : ∃ row, atI f (r : Int) = some row ∧ atI row (i : Int) = some (fE f r i) := by
 obtain ⟨row, h1, h2⟩ := h.2 r hr
 obtain ⟨v, h3, h4⟩ := h2.2 i hi
 refine ⟨row, getI h1, ?_⟩
 unfold fE
 rw [h1, Option.getD_some, h3, Option.getD_some]
 exact getI h3
def fA (l : List Int) (n R m i : Nat) : Int := (l[(R - m) * (n + 1) + i]?).getD (-1)
theorem fA_ok {p : A_Pg} {R : Nat} {l : List Int} (h : PotOK p R l) : ∀ m i, m ≤ R → i ≤ p.Tokens.length → Lst (AtM p.Tokens.length (fitP p) (cPr p) m i) (fA l p.Tokens.length R m i) := fun m i hm hi => by
 obtain ⟨v, h1, h2⟩ := h.2 (R - m) i (by omega) hi
 unfold fA
 rw [h1, Option.getD_some]
 rw [show R - (R - m) = m by omega] at h2
 exact h2
theorem fA_at {p : A_Pg} {R : Nat} {l : List Int} (h : PotOK p R l) {m i : Nat} (hm : m ≤ R) (hi : i ≤ p.Tokens.length) : atI l (((R - m) * (p.Tokens.length + 1) + i : Nat) : Int) = some (fA l p.Tokens.length R m i) := by
 obtain ⟨v, h1, h2⟩ := h.2 (R - m) i (by omega) hi
 unfold fA
 rw [h1, Option.getD_some]
 exact getI h1
theorem least_row {p : A_Pg} (hv : Pv p) {R k i : Nat} (hk : k ≤ R) (hR : R ≤ 4) {f : List (List Int)} (hf : TabOK p R f) (hi : i ≤ p.Tokens.length) {z : List Int} :
  ∃ e, iter (g_rb_Break_s3 ((i : Int), z) (f.take (R - k + 1))) (-1, 0) = some e ∧ Lst (PA p (R - k) i) e := by
 have hlen : (f.take (R - k + 1)).length = R - k + 1 := by rw [List.length_take, hf.1]; omega
 refine iter_post (fun x => ∃ t : Nat, x.2 = (t : Int) ∧ t ≤ R - k + 1 ∧ ((t = 0 ∧ x.1 = -1) ∨ ∃ t', t = t' + 1 ∧ Lst (PA p t' i) x.1)) (fun x => R - k + 1 - x.2.toNat) (fun e => Lst (PA p (R - k) i) e) (x := (-1, 0)) ⟨0, rfl, by omega, .inl ⟨rfl, rfl⟩⟩ (by show R - k + 1 - _ < _; omega) ?_
 rintro ⟨b, x⟩ ⟨t, hx, ht, hb⟩
 dsimp only at hx hb ⊢
 subst hx
 unfold g_rb_Break_s3
 dsimp only
 rw [hlen]
 by_cases hlt : t < R - k + 1
 ·left
  obtain ⟨row, h1, h2⟩ := fE_at hf (r := t) (i := i) (by omega) hi
  have hE := fE_ok hf t i (by omega) hi
  have hbd := lst_bd (by omega) hE
  have h1' : atI (f.take (R - k + 1)) (t : Int) = some row := by
   rw [atI_nat (by omega), List.getElem_take]
   rw [atI_nat (by rw [hf.1]; omega)] at h1
   exact h1
  rw [if_pos (by simp; omega), h1', wr64 (x := (t : Int) + 1) (by omega)]
  simp only [Option.bind_some]
  rw [h2]
  simp only [Option.bind_some]
  generalize fE f t i = v at *
  have hnew : Lst (PA p t i) (if v = -1 then b else if b = -1 ∨ v < b then v else b) := by
   rcases hb with ⟨rfl, rfl⟩ | ⟨t', rfl, hL⟩
   ·have h0 := atm_0 hE
    by_cases e : v = -1
    ·rw [if_pos e]; rw [e] at h0; exact h0
    ·rw [if_neg e, if_pos (.inl rfl)]; exact h0
   ·exact atm_join hL hE
  have hcond : (if (v != -1) = true then if (b == -1) = true then some true else some (decide (v < b)) else some false : Option Bool) = some (decide (v ≠ -1 ∧ (b = -1 ∨ v < b))) := by
   by_cases e1 : v = -1
   ·simp [e1]
   ·by_cases e2 : b = -1
    ·simp [e1, e2]
    ·simp [e1, e2]
  rw [hcond]
  simp only [Option.bind_some]
  by_cases e1 : v = -1
  ·rw [if_pos e1] at hnew
   rw [if_neg (by simp [e1])]
   exact ⟨_, rfl, ⟨t + 1, rfl, by omega, .inr ⟨t, rfl, hnew⟩⟩, by dsimp only; omega⟩
  ·rw [if_neg e1] at hnew
   by_cases e2 : b = -1 ∨ v < b
   ·rw [if_pos e2] at hnew
    rw [if_pos (by simp [e1, e2])]
    exact ⟨_, rfl, ⟨t + 1, rfl, by omega, .inr ⟨t, rfl, hnew⟩⟩, by dsimp only; omega⟩
   ·rw [if_neg e2] at hnew
    rw [if_neg (by simp [e1]; omega)]
    exact ⟨_, rfl, ⟨t + 1, rfl, by omega, .inr ⟨t, rfl, hnew⟩⟩, by dsimp only; omega⟩
 ·right
  rw [if_neg (by simp; omega)]
  refine ⟨_, rfl, ?_⟩
  rcases hb with ⟨rfl, _⟩ | ⟨t', rfl, hL⟩
  ·omega
  ·rw [show R - k = t' by omega]; exact hL
def PotTo (p : A_Pg) (R k i : Nat) (l : List Int) : Prop := l.length = k * (p.Tokens.length + 1) + i ∧ ∀ k' i', k' ≤ R → i' ≤ p.Tokens.length → (k' < k ∨ k' = k ∧ i' < i) → PotAt p R l k' i'
theorem pots_row {p : A_Pg} (hv : Pv p) {R k : Nat} (hR : p.Rows = (R : Int)) (hk : k ≤ R) {f : List (List Int)} (hf : TabOK p R f) {y : List Int} (hy : y.length = p.Tokens.length + 1) {l0 : List Int} (h0 : PotTo p R k 0 l0) :
  ∃ e, iter (g_rb_Break_s2 p f ((k : Int), l0) y) (0, l0) = some e ∧ PotTo p R (k + 1) 0 e := by
 have hn := hv.ok.toks
 have hrw := hv.rows
 refine iter_post (fun x => ∃ i : Nat, x.1 = (i : Int) ∧ i ≤ p.Tokens.length + 1 ∧ PotTo p R k i x.2) (fun x => p.Tokens.length + 1 - x.1.toNat) (PotTo p R (k + 1) 0) (x := (0, l0)) ⟨0, rfl, by omega, h0⟩ (by show p.Tokens.length + 1 - _ < _; omega) ?_
 rintro ⟨x, l⟩ ⟨i, hx, hi, hl⟩
 dsimp only at hx hl ⊢
 subst hx
 unfold g_rb_Break_s2
 dsimp only
 rw [hy]
 by_cases hlt : i ≤ p.Tokens.length
 ·left
  have hb := idx_bd hn (show k ≤ 5 by omega) hlt
  obtain ⟨v, he, hL⟩ := least_row hv hk (by omega) hf hlt (z := l)
  have hsub : subH f (IntKind.i64.wrap (IntKind.i64.wrap (p.Rows - (k : Int)) + 1)) = some (f.take (R - k + 1)) := by
   rw [hR, wr64 (x := (R : Int) - k) (by omega), wr64 (by omega)]
   unfold subH
   rw [if_pos (by have := hf.1; omega)]
   congr 2
   omega
  rw [if_pos (by simp; omega), hsub]
  simp only [Option.bind_some]
  rw [he]
  simp only [Option.bind_some]
  rw [if_pos (by rw [hl.1]; omega), wr64 (x := (i : Int) + 1) (by omega)]
  refine ⟨_, rfl, ⟨i + 1, rfl, by omega, by simp [hl.1]; omega, fun k' i' h1 h2 h3 => ?_⟩, by dsimp only; omega⟩
  by_cases e : k' = k ∧ i' = i
  ·obtain ⟨rfl, rfl⟩ := e
   exact ⟨v, by dsimp only; rw [List.getElem?_append_right (by rw [hl.1]; omega), hl.1]; simp, hL⟩
  ·obtain ⟨w, hw, hLw⟩ := hl.2 k' i' h1 h2 (by omega)
   refine ⟨w, ?_, hLw⟩
   dsimp only
   rw [List.getElem?_append_left (List.getElem?_eq_some_iff.1 hw).1]
   exact hw
 ·right
  rw [if_neg (by simp; omega)]
  refine ⟨_, rfl, ?_, fun k' i' h1 h2 h3 => hl.2 k' i' h1 h2 (by omega)⟩
  rw [hl.1, Nat.add_mul]; omega
theorem pots_key {p : A_Pg} (hv : Pv p) {R : Nat} (hR : p.Rows = (R : Int)) {f : List (List Int)} (hf : TabOK p R f) : ∃ e, iter (g_rb_Break_s1 p f) (0, []) = some e ∧ PotOK p R e := by
 have hn := hv.ok.toks
 have hrw := hv.rows
 have hfl := hf.1
 refine iter_post (fun x => ∃ k : Nat, x.1 = (k : Int) ∧ k ≤ R + 1 ∧ PotTo p R k 0 x.2) (fun x => R + 1 - x.1.toNat) (PotOK p R) (x := (0, [])) ⟨0, rfl, by omega, by simp, fun k' i' _ _ h => by omega⟩ (by show R + 1 - _ < _; omega) ?_
 rintro ⟨x, l⟩ ⟨k, hx, hk, hl⟩
 dsimp only at hx hl ⊢
 subst hx
 unfold g_rb_Break_s1
 dsimp only
 rw [hfl]
 by_cases hlt : k ≤ R
 ·left
  obtain ⟨row, h1, h2⟩ := hf.2 0 (by omega)
  have h1 := getI h1
  simp only [Int.natCast_zero] at h1
  obtain ⟨e, he, hl2⟩ := pots_row hv hR hlt hf h2.1 hl
  rw [if_pos (by simp; omega), h1, wr64 (x := (k : Int) + 1) (by omega)]
  simp only [Option.bind_some]
  rw [he]
  exact ⟨_, rfl, ⟨k + 1, rfl, by omega, hl2⟩, by dsimp only; omega⟩
 ·right
  obtain rfl : k = R + 1 := by omega
  rw [if_neg (by simp)]
  exact ⟨_, rfl, by rw [hl.1]; omega, fun k' i' h1 h2 => hl.2 k' i' h1 h2 (by omega)⟩
theorem rows_key {p : A_Pg} (hv : Pv p) {R : Nat} (hR : p.Rows = (R : Int)) {f : List (List Int)} (hf : TabOK p R f) {y : Int} (hy : Lst (PA p R 0) y) (h1 : y ≠ -1) :
  ∃ r : Nat, iter (g_rb_Break_s4 f y) 0 = some (r : Int) ∧ 1 ≤ r ∧ r ≤ R ∧ fE f r 0 = y ∧ Tight (fE f) r 0 := by
 have hn := hv.ok.toks
 have hrw := hv.rows
 have hne : 1 ≤ p.Tokens.length := List.length_pos_iff.2 hv.ne
 have hE := fE_ok hf
 obtain ⟨hy0, ⟨s, hs, hps⟩, hmin⟩ := hy.mem h1
 have hex : fE f s 0 = y := by
  have a := (hE s 0 hs (by omega)).has hps
  have b := (hE s 0 hs (by omega)).mem a.1
  have c := hmin _ ⟨s, hs, b.2.1⟩
  have := a.2.2; omega
 have key : ∃ e, iter (g_rb_Break_s4 f y) 0 = some e ∧ ∃ r : Nat, e = (r : Int) ∧ r ≤ R ∧ fE f r 0 = y ∧ ∀ t, t < r → fE f t 0 ≠ y := by
  refine iter_post (fun x => ∃ r : Nat, x = (r : Int) ∧ r ≤ s ∧ ∀ t, t < r → fE f t 0 ≠ y) (fun x => R + 1 - x.toNat) (fun e => ∃ r : Nat, e = (r : Int) ∧ r ≤ R ∧ fE f r 0 = y ∧ ∀ t, t < r → fE f t 0 ≠ y) (x := 0) ⟨0, rfl, by omega, fun t ht => by omega⟩ (by show R + 1 - _ < _; omega) ?_
  rintro x ⟨r, rfl, hr, ht⟩
  unfold g_rb_Break_s4
  obtain ⟨row, a1, a2⟩ := fE_at hf (r := r) (i := 0) (by omega) (by omega)
  simp only [Int.natCast_zero] at a2
  rw [a1]
  simp only [Option.bind_some]
  rw [a2]
  simp only [Option.bind_some]
  by_cases e : fE f r 0 = y
  ·right
   rw [if_neg (by simpa using e)]
   exact ⟨_, rfl, r, rfl, by omega, e, ht⟩
  ·left
   rw [if_pos (by simpa using e), wr64 (by omega)]
   have : r ≠ s := fun q => e (by rw [q]; exact hex)
   refine ⟨_, rfl, ⟨r + 1, rfl, by omega, fun t h => ?_⟩, by omega⟩
   by_cases q : t = r
   ·rw [q]; exact e
   ·exact ht t (by omega)
 obtain ⟨e, h2, r, rfl, h3, h4, h5⟩ := key
 refine ⟨r, h2, ?_, h3, h4, ?_⟩
 ·rcases Nat.eq_zero_or_pos r with q | q
  ·subst q
   have := ((hE 0 0 (by omega) (by omega)).mem (by rw [h4]; exact h1)).2.1
   have := (pth_zero.1 this).1
   omega
  ·exact q
 ·refine ⟨by rw [h4]; exact h1, fun t ht => ?_⟩
  by_cases q : fE f t 0 = -1
  ·exact .inl q
  ·right
   have a := (hE t 0 (by omega) (by omega)).mem q
   have b := hmin _ ⟨t, by omega, a.2.1⟩
   have := h5 t ht
   rw [h4]; omega
theorem refrows_key {p : A_Pg} (hv : Pv p) {R r : Nat} (hR : p.Rows = (R : Int)) {f : List (List Int)} (hf : TabOK p R f) (h1 : 1 ≤ r) (hr : r ≤ R) (ht : Tight (fE f) r 0) : iter (g_ref36_Break_s1 p (fE f r 0)) 1 = some (r : Int) := by
 have hn := hv.ok.toks
 have hrw := hv.rows
 have hE := fE_ok hf
 refine iter_of (fun x e => e = (r : Int) ∧ ∃ m : Nat, x = (m : Int) ∧ 1 ≤ m ∧ m ≤ r) (fun x => r + 1 - x.toNat) ?_ ⟨rfl, 1, rfl, by omega, h1⟩ (by show r + 1 - _ < _; omega)
 rintro x e ⟨rfl, m, rfl, hm1, hm2⟩
 unfold g_ref36_Break_s1
 obtain ⟨l, hl, hok⟩ := pot_eq (Pv_q hv (r := (m : Int)) (by omega))
 have hok := PotOK_q hok
 rw [show (parQ p (m : Int)).Rows.toNat = m by show ((m : Int)).toNat = m; omega] at hok
 have e1 : (A_Pg.mk p.Tokens p.Width (m : Int) p.Table) = parQ p (m : Int) := rfl
 rw [e1, hl]
 simp only [Option.bind_some]
 have hat := fA_at hok (m := m) (i := 0) (Nat.le_refl _) (by omega)
 have hA := fA_ok hok m 0 (Nat.le_refl _) (by omega)
 rw [Nat.sub_self, Nat.zero_mul, Nat.zero_add] at hat
 simp only [Int.natCast_zero] at hat
 rw [hat]
 simp only [Option.bind_some]
 by_cases q : m = r
 ·right
  subst q
  have := tight_A (A := fun a b => fA l p.Tokens.length m a b) (R := m) (fun a b ha hb => hE a b (by omega) hb) (fun a b ha hb => fA_ok hok a b ha hb) (Nat.le_refl _) (by omega) ht
  rw [this]
  simp
 ·left
  have hne : fA l p.Tokens.length m m 0 ≠ fE f r 0 := fun e => by
   obtain ⟨_, ⟨s, hs, hps⟩, _⟩ := hA.mem (by rw [e]; exact ht.1)
   have a := (hE s 0 (by omega) (by omega)).has hps
   rw [e] at a
   rcases ht.2 s (by omega) with b | b
   ·exact a.1 b
   ·have := a.2.2; omega
  rw [if_neg (by simpa using hne), wr64 (by omega)]
  exact ⟨_, rfl, ⟨by first | rfl | trivial, m + 1, rfl, by omega, by omega⟩, by omega⟩
def inl (L : List Nat) : List Int := L.map fun (j : Nat) => (j : Int)
theorem ends_inner {p : A_Pg} (hv : Pv p) {R : Nat} (hR : R ≤ 4) {f : List (List Int)} (hf : TabOK p R f) {r i j : Nat} (hr : r + 1 ≤ R) (hij : i < j) (hj : j ≤ p.Tokens.length) (hok : OkS (fitP p) (cPr p) (fE f) r i j) (hno : ∀ k, i < k → k < j → ¬ OkS (fitP p) (cPr p) (fE f) r i k) {z : List Int} :
  ∃ e, iter (g_rb_Break_s6 (shP p (aimP p)) f (((r + 1 : Nat) : Int), (i : Int), z)) ((i : Int) + 1) = some e ∧ e.1 = (j : Int) := by
 have hn := hv.ok.toks
 have hE := fE_ok hf
 refine iter_post (fun x => ∃ k : Nat, x = (k : Int) ∧ i < k ∧ k ≤ j) (fun x => j + 1 - x.toNat) (fun e => Prod.fst e = (j : Int)) ⟨i + 1, rfl, by omega, by omega⟩ (by show j + 1 - _ < _; omega) ?_
 rintro x ⟨k, rfl, hk1, hk2⟩
 unfold g_rb_Break_s6
 dsimp only
 rw [fits_eq hv.ok _ (by omega) (by omega)]
 simp only [Option.bind_some]
 obtain ⟨row, a1, a2⟩ := fE_at hf (r := r) (i := k) (by omega) (by omega)
 obtain ⟨row', b1, b2⟩ := fE_at hf (r := r + 1) (i := i) (by omega) (by omega)
 have hbd := lst_bd (by omega) (hE r k (by omega) (by omega))
 have hc := cPr_le p i k
 rw [wr64 (x := ((r + 1 : Nat) : Int) - 1) (by omega), show ((r + 1 : Nat) : Int) - 1 = (r : Int) by omega, wr64 (x := (k : Int) + 1) (by omega), a1]
 simp only [Option.bind_some]
 rw [a2]
 simp only [Option.bind_some]
 rw [cost_eq hv.ok hk1 (by omega), b1]
 simp only [Option.bind_some]
 rw [b2]
 simp only [Option.bind_some]
 rw [wr64 (x := cPr p i k + fE f r k) (by omega)]
 by_cases e : k = j
 ·right
  subst e
  rw [if_pos hok.1, if_neg (by simpa using hok.2.1), if_neg (by simpa using hok.2.2)]
  exact ⟨_, rfl, rfl⟩
 ·left
  have hnk := hno k hk1 (by omega)
  refine ⟨((k + 1 : Nat) : Int), ?_, ⟨k + 1, rfl, by omega, by omega⟩, by omega⟩
  cases hf2 : fitP p i k
  ·rfl
  ·rw [if_pos rfl]
   by_cases q1 : fE f r k = -1
   ·rw [if_pos (by simpa using q1)]; rfl
   ·have q2 : cPr p i k + fE f r k ≠ fE f (r + 1) i := fun h => hnk ⟨hf2, q1, h⟩
    rw [if_neg (by simpa using q1), if_pos (by simpa using q2)]; rfl
theorem ends_prog {p : A_Pg} (hv : Pv p) {R : Nat} (hR : R ≤ 4) {f : List (List Int)} (hf : TabOK p R f) {r : Nat} {G : List Nat} (hr : r ≤ R) (hG : Gr p.Tokens.length (fitP p) (cPr p) (fE f) r 0 G) :
  iter (g_rb_Break_s5 (shP p (aimP p)) f) ((r : Int), 0, []) = some (inl G) := by
 have hn := hv.ok.toks
 refine iter_of (fun x e => e = inl G ∧ ∃ (r i : Nat) (L : List Nat), x.1 = (r : Int) ∧ x.2.1 = (i : Int) ∧ r ≤ R ∧ i ≤ p.Tokens.length ∧ Gr p.Tokens.length (fitP p) (cPr p) (fE f) r i L ∧ x.2.2 ++ inl L = inl G ∧ x.2.2.length + r ≤ 4) (fun x => x.1.toNat) ?_ (x := ((r : Int), 0, [])) ⟨rfl, r, 0, G, rfl, rfl, hr, by omega, hG, rfl, by simp; omega⟩ (by show ((r : Int)).toNat < _; omega)
 rintro ⟨x, y, acc⟩ e ⟨rfl, r, i, L, hx, hy, hr, hi, hg, hacc, hl⟩
 dsimp only at hx hy hacc hl ⊢
 subst hx hy
 unfold g_rb_Break_s5
 dsimp only
 cases hg with
 | nil =>
  right
  rw [if_neg (by simp), ← hacc]
  simp [inl]
 | @cons r i j L a1 a2 a3 a4 a5 =>
  left
  obtain ⟨e, he, hej⟩ := ends_inner hv hR hf hr a1 a2 a3 a4 (z := acc)
  rw [if_pos (by first | (simp; done) | (simp; omega)), wr64 (x := (i : Int) + 1) (by omega), he]
  simp only [Option.bind_some]
  rw [if_pos (by omega), hej, wr64 (by omega)]
  refine ⟨_, rfl, ⟨by first | rfl | trivial, r, j, L, by dsimp only; omega, rfl, by omega, a2, a5, ?_, by simp; omega⟩, by dsimp only; omega⟩
  dsimp only
  rw [← hacc]
  simp [inl]
theorem refends_inner {p : A_Pg} (hv : Pv p) {R r0 k : Nat} (hR : R ≤ 4) {f : List (List Int)} (hf : TabOK p R f) {l : List Int} (hl : PotOK p r0 l) {r i j : Nat} (h0 : r0 ≤ R) (hk : r0 = k + (r + 1)) (hij : i < j) (hj : j ≤ p.Tokens.length) (ht : Tight (fE f) (r + 1) i) (hok : OkS (fitP p) (cPr p) (fE f) r i j) (hno : ∀ k, i < k → k < j → ¬ OkS (fitP p) (cPr p) (fE f) r i k) {z : List Int} (hz : z.length ≤ 10) :
  iter (g_ref36_Break_s3 p l ((i : Int), (k : Int), z)) ((i : Int) + 1) = some (z ++ [(j : Int)], (j : Int)) := by
 have hn := hv.ok.toks
 have hE := fE_ok hf
 refine iter_of (fun x e => e = (z ++ [(j : Int)], (j : Int)) ∧ ∃ m : Nat, x = (m : Int) ∧ i < m ∧ m ≤ j) (fun x => j + 1 - x.toNat) ?_ ⟨rfl, i + 1, rfl, by omega, by omega⟩ (by show j + 1 - _ < _; omega)
 rintro x e ⟨rfl, m, rfl, hm1, hm2⟩
 unfold g_ref36_Break_s3
 dsimp only
 have a1 := fA_at hl (m := r) (i := m) (by omega) (by omega)
 have a2 := fA_at hl (m := r + 1) (i := i) (by omega) (by omega)
 rw [show r0 - r = k + 1 by omega] at a1
 rw [show r0 - (r + 1) = k by omega] at a2
 have hbd := lstA_bd (by omega) (fA_ok hl r m (by omega) (by omega))
 have hc := cPr_le p i m
 rw [if_pos (by simp; omega), wr64 (x := (k : Int) + 1) (by omega), show ((k : Int) + 1) = ((k + 1 : Nat) : Int) by omega, idx_w hn (by omega) (by omega), idx_w hn (by omega) (by omega), a1]
 simp only [Option.bind_some]
 rw [refFits_eq hv.ok hm1 (by omega), refRow_eq hv.ok hm1 (by omega), a2]
 simp only [Option.bind_some]
 rw [wr64 (x := cPr p i m + fA l p.Tokens.length r0 r m) (by omega), wr64 (x := (m : Int) + 1) (by omega)]
 have hcond := tight_cond (A := fun a b => fA l p.Tokens.length r0 a b) (R := r0) (fun a b ha hb => hE a b (by omega) hb) (fun a b ha hb => fA_ok hl a b ha hb) (r := r) (i := i) (j := m) (by omega) hm1 (by omega) ht
 have e1 : (if fitP p i m = true then if decide (0 ≤ fA l p.Tokens.length r0 r m) = true then some (cPr p i m + fA l p.Tokens.length r0 r m == fA l p.Tokens.length r0 (r + 1) i) else some false else some false : Option Bool) = some (decide (fitP p i m = true ∧ 0 ≤ fA l p.Tokens.length r0 r m ∧ cPr p i m + fA l p.Tokens.length r0 r m = fA l p.Tokens.length r0 (r + 1) i)) := by
  cases fitP p i m
  ·simp
  ·by_cases q : 0 ≤ fA l p.Tokens.length r0 r m
   ·by_cases q2 : cPr p i m + fA l p.Tokens.length r0 r m = fA l p.Tokens.length r0 (r + 1) i
    ·simp [q, q2]
    ·simp [q, q2]
   ·simp [q]
 rw [e1]
 simp only [Option.bind_some]
 by_cases e : m = j
 ·right
  subst e
  rw [if_pos (by rw [decide_eq_true_iff]; exact hcond.2 hok), if_pos (by omega)]
 ·left
  rw [if_neg (by rw [decide_eq_true_iff]; exact fun h => hno m hm1 (by omega) (hcond.1 h))]
  exact ⟨_, rfl, ⟨by first | rfl | trivial, m + 1, rfl, by omega, by omega⟩, by omega⟩
theorem ends_ref {p : A_Pg} (hv : Pv p) {R r0 : Nat} (hR : R ≤ 4) {f : List (List Int)} (hf : TabOK p R f) {l : List Int} (hl : PotOK p r0 l) (h0 : r0 ≤ R) (ht : Tight (fE f) r0 0) {G : List Nat} (hG : Gr p.Tokens.length (fitP p) (cPr p) (fE f) r0 0 G) :
  iter (g_ref36_Break_s2 p l) (0, 0, []) = some (inl G) := by
 have hn := hv.ok.toks
 have hE := fE_ok hf
 refine iter_of (fun x e => e = inl G ∧ ∃ (k r i : Nat) (L : List Nat), x.1 = (i : Int) ∧ x.2.1 = (k : Int) ∧ r0 = k + r ∧ i ≤ p.Tokens.length ∧ Gr p.Tokens.length (fitP p) (cPr p) (fE f) r i L ∧ Tight (fE f) r i ∧ x.2.2 ++ inl L = inl G ∧ x.2.2.length = k) (fun x => r0 + 1 - x.2.1.toNat) ?_ (x := (0, 0, [])) ⟨rfl, 0, r0, 0, G, rfl, rfl, by omega, by omega, hG, ht, rfl, rfl⟩ (by show r0 + 1 - _ < _; omega)
 rintro ⟨x, y, acc⟩ e ⟨rfl, k, r, i, L, hx, hy, hr, hi, hg, hti, hacc, hlen⟩
 dsimp only at hx hy hacc hlen ⊢
 subst hx hy
 unfold g_ref36_Break_s2
 dsimp only
 cases hg with
 | nil =>
  right
  rw [if_neg (by simp), ← hacc]
  simp [inl]
 | @cons r i j L a1 a2 a3 a4 a5 =>
  left
  rw [if_pos (by simp; omega), wr64 (x := (i : Int) + 1) (by omega), refends_inner hv hR hf hl h0 hr a1 a2 hti a3 a4 (by omega)]
  simp only [Option.bind_some]
  rw [wr64 (by omega)]
  refine ⟨_, rfl, ⟨by first | rfl | trivial, k + 1, r, j, L, rfl, rfl, by omega, a2, a5, ?_, ?_, by simp; omega⟩, by dsimp only; omega⟩
  ·exact tight_next (R := R) hE (by omega) a1 a2 hti a3
  ·dsimp only
   rw [← hacc]
   simp [inl]
inductive RPath (p : A_Pg) : Nat → List Nat → Prop
 | nil : RPath p p.Tokens.length []
 | cons {i j : Nat} {L : List Nat} : i < j → j ≤ p.Tokens.length → fitP p i j = true → RPath p j L → RPath p i (j :: L)
theorem gr_path {p : A_Pg} {E : Nat → Nat → Int} {r i : Nat} {L : List Nat} (h : Gr p.Tokens.length (fitP p) (cPr p) E r i L) : RPath p i L := by
 induction h with
 | nil => exact .nil
 | cons a1 a2 a3 _ _ ih => exact .cons a1 a2 a3.1 ih
def BrFin (p : A_Pg) (b : A_Breaks) : Prop := ckP p = 0 ∧ 0 ≤ b.Cost ∧ b.Cost ≤ 264000000 ∧ (∃ (r : Nat) (x : Int), (r : Int) ≤ p.Rows ∧ PP p r 0 x) ∧ ∃ G, b.Ends = inl G ∧ RPath p 0 G ∧ (G.length : Int) ≤ p.Rows
theorem Break_both {p : A_Pg} (h : Pok p) : ∃ b e, g_rb_Break p = some (b, e) ∧ g_ref36_Break p = some (b, e) ∧ b.Ends.length ≤ 4 ∧ (e = 0 → BrFin p b) := by
 unfold g_rb_Break g_ref36_Break
 rw [par_prog h, par_ref h]
 simp only [Option.bind_some]
 by_cases h0 : ckP p = 0
 rotate_left
 ·rw [if_pos (by simpa using h0), if_pos (by simpa using h0)]
  exact ⟨_, _, rfl, rfl, by simp, fun e => absurd e h0⟩
 rw [if_neg (by simpa using h0), if_neg (by simpa using h0)]
 have hv := ckP_0 h h0
 have hn := h.toks
 have hrw := hv.rows
 obtain ⟨R, hR⟩ : ∃ R : Nat, p.Rows = (R : Int) := ⟨p.Rows.toNat, by omega⟩
 have hRn : p.Rows.toNat = R := by rw [hR]; rfl
 obtain ⟨f, hf, htab⟩ := exact_eq hv
 obtain ⟨l, hl, hpot⟩ := pot_eq hv
 rw [hRn] at htab hpot
 obtain ⟨l', hl', hpot'⟩ := pots_key hv hR htab
 obtain rfl := pot_uniq hpot hpot'
 rw [open_eq h]
 simp only [Option.bind_some]
 rw [hf, hl]
 simp only [Option.bind_some]
 rw [hl']
 simp only [Option.bind_some]
 have hA := fA_ok hpot R 0 (Nat.le_refl _) (by omega)
 have hat := fA_at hpot (m := R) (i := 0) (Nat.le_refl _) (by omega)
 rw [Nat.sub_self, Nat.zero_mul, Nat.zero_add] at hat
 simp only [Int.natCast_zero] at hat
 rw [hat]
 simp only [Option.bind_some]
 generalize fA l p.Tokens.length R R 0 = y at *
 have hyb := lstA_bd (by omega) hA
 by_cases hy : y = -1
 ·rw [if_pos (by simpa using hy), if_pos (by simp; omega)]
  exact ⟨_, _, rfl, rfl, by simp, fun e => by cases e⟩
 ·rw [if_neg (by simpa using hy), if_neg (by simp; omega)]
  obtain ⟨r, k1, k2, k3, k4, k5⟩ := rows_key hv hR htab hA hy
  obtain ⟨G, hG⟩ := gr_exists (R := R) (fE_ok htab) r 0 k3 (by omega) (by rw [k4]; exact hy)
  have k6 := refrows_key hv hR htab k2 k3 k5
  rw [k4] at k6
  obtain ⟨l2, m1, m2⟩ := pot_eq (Pv_q hv (r := (r : Int)) (by omega))
  have m2 := PotOK_q m2
  rw [show (parQ p (r : Int)).Rows.toNat = r by show ((r : Int)).toNat = r; omega] at m2
  have e1 : (A_Pg.mk p.Tokens p.Width (r : Int) p.Table) = parQ p (r : Int) := rfl
  rw [k1, k6]
  simp only [Option.bind_some]
  rw [e1, m1, ends_prog hv (by omega) htab k3 hG]
  simp only [Option.bind_some]
  rw [ends_ref hv (by omega) htab m2 k3 k5 hG]
  refine ⟨_, _, rfl, rfl, by have := gr_len hG; simp [inl]; omega, fun _ => ⟨h0, by dsimp only; omega, by dsimp only; omega, ⟨r, y, by omega, ?_⟩, G, rfl, gr_path hG, by have := gr_len hG; omega⟩⟩
  have := (fE_ok htab r 0 k3 (by omega)).mem (by rw [k4]; exact hy)
  rw [k4] at this
  exact this.2.1
set_option maxHeartbeats 10000000
theorem sum_loop {α : Type} (l : List α) (tx : α → List UInt8) (len : List UInt8 → Option Int) (hn : l.length ≤ 8) (ht : ∀ a ∈ l, (tx a).length ≤ 1048576) (hlen : ∀ a ∈ l, len (tx a) = some (chL (tx a))) {step : Int × Int → Option (Nx (Int × Int) Int)}
  (hst : ∀ x, step x = (if (decide (x.2 < (l.length : Int))) then ((atI l x.2).bind fun y => ((len (tx y)).bind fun r => (some (.go ((IntKind.i64.wrap (x.1 + r)), (IntKind.i64.wrap (x.2 + 1))))))) else (some (.out x.1)))) :
  iter step (0, 0) = some ((l.map fun a => chL (tx a)).sum) := by
 refine iter_of (fun x e => e = (l.map fun a => chL (tx a)).sum ∧ ∃ i : Nat, x.2 = (i : Int) ∧ i ≤ l.length ∧ x.1 + ((l.drop i).map fun a => chL (tx a)).sum = (l.map fun a => chL (tx a)).sum ∧ -(i : Int) ≤ x.1 ∧ x.1 ≤ (i : Int) * 1048576) (fun x => l.length - x.2.toNat) ?_ (x := (0, 0)) ⟨rfl, 0, rfl, by omega, by simp, by simp, by simp⟩ (by show l.length - 0 < _; omega)
 rintro ⟨a, x⟩ e ⟨rfl, i, hx, hi, hs, h1, h2⟩
 dsimp only at hx hs h1 h2 ⊢
 subst hx
 rw [hst]
 dsimp only
 by_cases h : i < l.length
 ·left
  have hb := chL_le _ (ht _ (List.getElem_mem h))
  rw [if_pos (by simpa using h), atI_nat h, wr64 (x := (i : Int) + 1) (by omega)]
  simp only [Option.bind_some]
  rw [hlen _ (List.getElem_mem h)]
  simp only [Option.bind_some]
  rw [wr64 (by omega)]
  rw [List.drop_eq_getElem_cons h, List.map_cons, List.sum_cons] at hs
  exact ⟨_, rfl, ⟨by first | rfl | trivial, i + 1, rfl, h, by dsimp only; omega, by dsimp only; omega, by dsimp only; omega⟩, by dsimp only; omega⟩
 ·right
  rw [if_neg (by simpa using h)]
  rw [List.drop_eq_nil_of_le (by omega)] at hs
  simp at hs
  rw [hs]
theorem smP_sum (p : A_Pg) : ∀ k, k ≤ p.Tokens.length → smP p k = ((p.Tokens.take k).map fun t => chL t.Text).sum
 | 0, _ => by simp [smP]
 | k + 1, h => by
  rw [show smP p (k + 1) = smP p k + tlen p k from rfl, smP_sum p k (by omega), tlen_at p (by omega), List.take_add_one, List.getElem?_eq_getElem (by omega), List.map_append, List.sum_append]
  congr 1
  simp
theorem pp_room {p : A_Pg} (hw : 0 ≤ p.Width) : ∀ {r i : Nat} {x : Int}, PP p r i x → smP p p.Tokens.length - smP p i + ((p.Tokens.length : Int) - i) ≤ (r : Int) * (p.Width + 1) := by
 intro r i x h
 induction h with
 | nil => simp
 | @cons r i j x a1 a2 a3 a4 ih =>
  unfold fitP lnP at a3
  simp only [decide_eq_true_eq] at a3
  have e : ((r + 1 : Nat) : Int) * (p.Width + 1) = (r : Int) * (p.Width + 1) + (p.Width + 1) := by rw [Int.natCast_add, Int.add_mul]; omega
  omega
theorem ckWs_at : ∀ {a : Int} {l : List A_Word}, ckWs a l = 0 → ∀ i (h : i < l.length), (l[i].Text ≠ [] ∧ hasSp l[i].Text = false ∧ gv l[i].Text = true ∧ 0 ≤ l[i].Span.In ∧ l[i].Span.In < l[i].Span.Out ∧ l[i].Span.Out ≤ 5184000) ∧ (∀ h0 : 0 < i, (l[i - 1]'(by omega)).Span.Out ≤ l[i].Span.In) ∧ (i = 0 → a ≤ l[i].Span.In)
 | a, [], h, i, hi => by simp at hi
 | a, w :: l, h, i, hi => by
  unfold ckWs at h
  by_cases hw : ckW w a = 0
  ·rw [if_neg (by omega)] at h
   have hwf : (w.Text ≠ [] ∧ hasSp w.Text = false ∧ gv w.Text = true ∧ 0 ≤ w.Span.In ∧ w.Span.In < w.Span.Out ∧ w.Span.Out ≤ 5184000) ∧ a ≤ w.Span.In := by
    unfold ckW at hw
    by_cases h1 : w.Text = [] ∨ hasSp w.Text = true
    ·rw [if_pos h1] at hw; cases hw
    rw [if_neg h1] at hw
    by_cases h2 : gv w.Text = false
    ·rw [if_pos h2] at hw; cases hw
    rw [if_neg h2] at hw
    by_cases h3 : w.Span.In < 0 ∨ w.Span.Out ≤ w.Span.In ∨ 5184000 < w.Span.Out
    ·rw [if_pos h3] at hw; cases hw
    rw [if_neg h3] at hw
    by_cases h4 : w.Span.In < a
    ·rw [if_pos h4] at hw; cases hw
    refine ⟨⟨fun e => h1 (.inl e), ?_, by simpa using h2, by omega, by omega, by omega⟩, by omega⟩
    cases hh : hasSp w.Text
    ·rfl
    ·exact absurd (.inr hh) h1
   cases i with
   | zero => exact ⟨hwf.1, fun h0 => by omega, fun _ => hwf.2⟩
   | succ i =>
    have ih := ckWs_at h i (by simpa using hi)
    refine ⟨ih.1, fun _ => ?_, fun e => by omega⟩
    cases i with
    | zero => exact ih.2.2 rfl
    | succ i => exact ih.2.1 (by omega)
  ·rw [if_pos hw] at h; exact absurd h hw
theorem words_mono {a : Int} {l : List A_Word} (h : ckWs a l = 0) {i : Nat} : ∀ {j : Nat} (hij : i ≤ j) (hj : j < l.length), (l[i]'(by omega)).Span.In ≤ l[j].Span.In ∧ (l[i]'(by omega)).Span.Out ≤ l[j].Span.Out
 | 0, hij, hj => by
  obtain rfl : i = 0 := by omega
  exact ⟨Int.le_refl _, Int.le_refl _⟩
 | j + 1, hij, hj => by
  by_cases e : i = j + 1
  ·subst e; exact ⟨Int.le_refl _, Int.le_refl _⟩
  ·have ih := words_mono h (i := i) (j := j) (by omega) (by omega)
   have a1 := (ckWs_at h (j + 1) hj).2.1 (by omega)
   have a2 := (ckWs_at h (j + 1) hj).1
   have a3 := (ckWs_at h j (by omega)).1
   simp only [Nat.add_sub_cancel] at a1
   omega
structure Sv (s : A_Sh) : Prop where
 ok : Sok s
 rate : rtV s.Rate = true
 ne : s.Words ≠ []
 words : ckWs 0 s.Words = 0
 table : pcS s.Table = 0
 house : okR s.House
theorem ckS_0 {p : A_Pf} (h : ckS p = 0) : okR p := by
 unfold ckS at h
 by_cases h1 : isNm p.Name = false
 ·rw [if_pos h1] at h; cases h
 rw [if_neg h1] at h
 by_cases h2 : okR p
 ·exact h2
 ·rw [if_pos h2] at h; cases h
theorem ckSp_0 {s : A_Sh} (h : Sok s) (h0 : ckSp s = 0) : Sv s := by
 unfold ckSp at h0
 by_cases h1 : rtV s.Rate = false
 ·rw [if_pos h1] at h0; cases h0
 rw [if_neg h1] at h0
 by_cases h2 : s.Words = []
 ·rw [if_pos h2] at h0; cases h0
 rw [if_neg h2] at h0
 by_cases h3 : ckWs 0 s.Words = 0
 rotate_left
 ·rw [if_pos h3] at h0; exact absurd h0 h3
 rw [if_neg (by omega)] at h0
 by_cases h4 : shC s.Shots = 0
 rotate_left
 ·rw [if_pos h4] at h0; exact absurd h0 h4
 rw [if_neg (by omega)] at h0
 by_cases h5 : pcS s.Table = 0
 rotate_left
 ·rw [if_pos h5] at h0; exact absurd h0 h5
 rw [if_neg (by omega)] at h0
 exact ⟨h, by simpa using h1, h2, h3, h5, ckS_0 h0⟩
def psp (s : A_Sh) (i j : Nat) : A_Pg := ⟨tkP s.Words i j, s.House.Cols, s.House.Rows, s.Table⟩
theorem psp_ok {s : A_Sh} (h : Sok s) {i j : Nat} (hj : j ≤ s.Words.length) : Pok (psp s i j) := by
 refine ⟨?_, fun t ht => ?_⟩
 ·have := tkP_len s.Words (i := i) hj
  have := h.words
  show (tkP s.Words i j).length ≤ 8
  omega
 ·obtain ⟨k, hk, rfl⟩ := List.getElem_of_mem ht
  have hk' : k < (tkP s.Words i j).length := hk
  have hl := tkP_len s.Words (i := i) hj
  show ((tkP s.Words i j)[k]).Text.length ≤ 1048576
  rw [tkP_at s.Words hj hk', tkA_text s.Words (show i + k < s.Words.length by omega)]
  exact h.texts _ (List.getElem_mem _)
theorem zero_le_needS (r c l : Int) (hr : 0 ≤ r ∧ r ≤ 255) (hc : 0 ≤ c) (hc2 : c ≤ 800) : 0 ≤ (needS r c l).1 ∧ (needS r c l).1 ≤ 5184000 := by
 obtain ⟨_, _, _, e4⟩ := rates r hr.1 hr.2
 unfold needS
 cases hv : rtV r with
 | false => simp
 | true =>
  obtain ⟨_, t0, t1⟩ := e4 hv
  cases h1 : wiB c 0 10000 with
  | false => simp
  | true =>
   cases h2 : wiB l 1 10000 with
   | false => simp
   | true =>
    have hl := wiB_t h2
    obtain ⟨m1, m2⟩ := mul_small 10000 hl.1 hl.2 t0 t1 (by omega)
    have m3 : 2002 ≤ l * rtT r := by
     have : 1 * rtT r ≤ l * rtT r := Int.mul_le_mul_of_nonneg_right hl.1 (by omega)
     omega
    simp only [if_true, Bool.and_self]
    refine ⟨?_, (upQ_le (by omega) (by omega)).2 ?_⟩
    ·unfold upQ; exact Int.tdiv_nonneg (by omega) (by omega)
    ·have := Int.mul_le_mul_of_nonneg_left m3 (show (0 : Int) ≤ 5184000 by omega)
     omega
theorem maxe (x : Int) : (if x > 0 then x else 0) = (if 0 > x then 0 else x) := by
 split <;> split <;> omega
def zPt : A_Part := ⟨0, 0, [], ⟨0, 0⟩⟩
theorem tkP_text (ws : List A_Word) {i j : Nat} (hj : j ≤ ws.length) : ((tkP ws i j).map fun t => chL t.Text) = (((ws.drop i).take (j - i)).map fun w => chL w.Text) := by
 refine List.ext_getElem (by simp [tkP, tks]) fun k h1 h2 => ?_
 have hl := tkP_len ws (i := i) hj
 simp only [List.length_map] at h1 h2
 rw [List.getElem_map, List.getElem_map, tkP_at ws hj h1, tkA_text ws (by omega)]
 simp
def wAt (s : A_Sh) (i : Nat) : A_Word := s.Words[i]?.getD ⟨[], ⟨0, 0⟩⟩
theorem wAt_eq {s : A_Sh} {i : Nat} (h : i < s.Words.length) : wAt s i = s.Words[i] := by simp [wAt, h]
theorem part_both {s : A_Sh} (hs : Sv s) {i j : Nat} (hij : i < j) (hj : j ≤ s.Words.length) : ∃ q : A_Part × Int × Int, g_sg_part s (tks s.Words) (i : Int) (j : Int) = some q ∧ (g_ref38_Check s = some 0 → g_ref38_Part s (i : Int) (j : Int) = some q) ∧ q.1.Breaks.length ≤ 4 ∧
  (q.2.2 = 0 → q.1.From = (i : Int) ∧ q.1.To = (j : Int) ∧ 0 ≤ q.2.1 ∧ q.2.1 ≤ 30000000000000 ∧ smP (psp s i j) (j - i) + ((j : Int) - i) ≤ s.House.Rows * (s.House.Cols + 1) ∧ (ckP (psp s i j) = 0 ∧ ∃ G, q.1.Breaks = inl G ∧ RPath (psp s i j) 0 G ∧ (G.length : Int) ≤ s.House.Rows) ∧ q.1.Span = ⟨(wAt s i).Span.In, (wAt s (j - 1)).Span.Out⟩) := by
 have h := hs.ok
 have hn := h.words
 have hP := psp_ok h (i := i) hj
 have hlen : (psp s i j).Tokens.length = j - i := tkP_len s.Words hj
 obtain ⟨b, e, hb1, hb2, hbe, hb3⟩ := Break_both hP
 have hi' : i < s.Words.length := by omega
 have hj' : j - 1 < s.Words.length := by omega
 have wi := ckWs_at hs.words i hi'
 have wj := ckWs_at hs.words (j - 1) hj'
 have wm := words_mono hs.words (show i ≤ j - 1 by omega) hj'
 have wi := wi.1
 have wj := wj.1
 have hfalse : (if (decide ((i : Int) < 0)) then (some true) else (if (decide ((j : Int) ≤ (i : Int))) then (some true) else (some (decide (((tks s.Words).length : Int) < (j : Int))))) : Option Bool) = some false := by
  rw [if_neg (by simp), if_neg (by simp; omega), tks_len]
  simp; omega
 have hfalse2 : (if (decide ((i : Int) < 0)) then (some true) else (if (decide ((j : Int) ≤ (i : Int))) then (some true) else (some (decide ((s.Words.length : Int) < (j : Int))))) : Option Bool) = some false := by
  rw [if_neg (by simp), if_neg (by simp; omega)]
  simp; omega
 have ej : IntKind.i64.wrap ((j : Int) - 1) = ((j - 1 : Nat) : Int) := by rw [wr64 (by omega)]; omega
 have ed : IntKind.i64.wrap ((j : Int) - (i : Int)) = ((j - i : Nat) : Int) := by rw [wr64 (by omega)]; omega
 have ai := atI_nat hi'
 have aj := atI_nat hj'
 obtain ⟨Wi, hWi⟩ : ∃ Wi, s.Words[i] = Wi := ⟨_, rfl⟩
 obtain ⟨Wj, hWj⟩ : ∃ Wj, s.Words[j - 1] = Wj := ⟨_, rfl⟩
 rw [hWi] at wi ai wm
 rw [hWj] at wj aj wm
 obtain ⟨fr, hfr⟩ : ∃ fr, Wj.Span.Out - Wi.Span.In = fr := ⟨_, rfl⟩
 have hfrb : 0 ≤ fr ∧ fr ≤ 5184000 := by omega
 have ef : IntKind.i64.wrap (Wj.Span.Out - Wi.Span.In) = fr := by rw [hfr]; exact wr64 (by omega)
 have hsub : subI (tks s.Words) (i : Int) (j : Int) = some (tkP s.Words i j) := by
  unfold subI tkP
  rw [if_pos (by have := tks_len s.Words; omega)]
  simp only [Int.toNat_natCast]
 have hwsub : subI s.Words (i : Int) (j : Int) = some ((s.Words.drop i).take (j - i)) := by
  unfold subI
  rw [if_pos (by omega)]
  simp only [Int.toNat_natCast]
 have hpar : g_ref38_paragraph s (i : Int) (j : Int) = some (psp s i j) := paragraph_eq h (Nat.le_of_lt hij) hj
 have hpsp : (A_Pg.mk (tkP s.Words i j) s.House.Cols s.House.Rows s.Table) = psp s i j := rfl
 have hv : ∃ v : Bool, (if (decide (1 < ((j - i : Nat) : Int))) then (some (decide (s.House.MxF < fr))) else (some false) : Option Bool) = some v := by
  split
  ·exact ⟨_, rfl⟩
  ·exact ⟨_, rfl⟩
 obtain ⟨v, hv⟩ := hv
 cases v
 rotate_left
 ·refine ⟨(zPt, 0, 2), ?_, fun hc => ?_, by simp [zPt], fun e => by cases e⟩
  ·simp only [g_sg_part, hfalse, ej, ed, ef, ai, aj, hv, Option.bind_some, Bool.false_eq_true, if_false, if_true, zPt]
  ·simp only [g_ref38_Part, hc, bne_self_eq_false, hfalse2, ej, ed, ef, ai, aj, hv, Option.bind_some, Bool.false_eq_true, if_false, if_true, zPt]
 by_cases he : e = 0
 rotate_left
 ·have hb : (e != 0) = true := by simpa using he
  refine ⟨(zPt, 0, e), ?_, fun hc => ?_, by simp [zPt], fun q => absurd q he⟩
  ·simp only [g_sg_part, hfalse, ej, ed, ef, ai, aj, hv, hsub, g_sg_paragraph, hpsp, hb1, hb, Option.bind_some, Bool.false_eq_true, if_false, if_true, zPt]
  ·simp only [g_ref38_Part, hc, bne_self_eq_false, hfalse2, ej, ed, ef, ai, aj, hv, hpar, hb2, hb, Option.bind_some, Bool.false_eq_true, if_false, if_true, zPt]
 have hb3 := hb3 he
 unfold BrFin at hb3
 obtain ⟨hck, hc0, hc1, ⟨r, x, hr, hpp⟩, hpath⟩ := hb3
 have hpv := ckP_0 hP hck
 have hbne : (e != 0) = false := by simp [he]
 have hroom := pp_room (by have := hpv.width; omega) hpp
 have hrows := hpv.rows
 have hwid := hpv.width
 have hmulr : (r : Int) * ((psp s i j).Width + 1) ≤ (psp s i j).Rows * ((psp s i j).Width + 1) := Int.mul_le_mul_of_nonneg_right hr (by omega)
 have hmulr2 : (psp s i j).Rows * ((psp s i j).Width + 1) ≤ 4 * ((psp s i j).Width + 1) := Int.mul_le_mul_of_nonneg_right (by omega) (by omega)
 have hsm := smP_lt hpv (i := 0) (j := (psp s i j).Tokens.length) (by omega) (Nat.le_refl _)
 have hs0 : smP (psp s i j) 0 = 0 := rfl
 rw [hs0] at hsm hroom
 have hC : ((psp s i j).Tokens.map fun t => chL t.Text).sum = smP (psp s i j) (psp s i j).Tokens.length := by
  rw [smP_sum _ _ (Nat.le_refl _), List.take_length]
 have hC2 : (((s.Words.drop i).take (j - i)).map fun w => chL w.Text).sum = smP (psp s i j) (psp s i j).Tokens.length := by
  rw [← tkP_text s.Words hj]; exact hC
 obtain ⟨C, hCC⟩ : ∃ C, smP (psp s i j) (psp s i j).Tokens.length = C := ⟨_, rfl⟩
 rw [hCC] at hC hC2 hsm hroom
 have hCb : 0 ≤ C ∧ C ≤ 131 := by omega
 have l1 : iter (g_sg_load_s1 ((s.Words.drop i).take (j - i))) (0, 0) = some C := by
  rw [← hC2]
  exact sum_loop _ (fun w => w.Text) g_ch_Len (by simp; omega) (fun a ha => h.texts a (List.mem_of_mem_drop (List.mem_of_mem_take ha))) (fun a ha => len_prog _ (h.texts a (List.mem_of_mem_drop (List.mem_of_mem_take ha)))) (fun x => rfl)
 have l2 : iter (g_ref38_Part_s1 (psp s i j)) (0, 0) = some C := by
  rw [← hC]
  exact sum_loop _ (fun t => t.Text) g_ref08_Len hP.toks hP.texts (fun a ha => len_ref _ (hP.texts a ha)) (fun x => rfl)
 obtain ⟨nd1, nd2⟩ := Needed_eq s.Rate C s.House.Reading h.rate.1 h.rate.2
 have ndb := zero_le_needS s.Rate C s.House.Reading h.rate hCb.1 (by omega)
 obtain ⟨ins, hin, hil⟩ := inside_total s.Shots ⟨Wi.Span.In, Wj.Span.Out⟩ (by have := h.shots; omega)
 have hsh := h.shots
 have t1 : atI (tks s.Words) (((j - 1 : Nat) : Int)) = some (tkA s.Words (j - 1)) := by
  rw [atI_nat (by rw [tks_len]; omega), tks_at]
 have t2 : atI (psp s i j).Tokens (IntKind.i64.wrap (((j - i : Nat) : Int) - 1)) = some (tkA s.Words (j - 1)) := by
  rw [wr64 (by omega), show (((j - i : Nat) : Int) - 1) = ((j - i - 1 : Nat) : Int) by omega, atI_nat (by rw [hlen]; omega)]
  have := tkP_at s.Words hj (i := i) (k := j - i - 1) (by rw [tkP_len s.Words hj]; omega)
  rw [show i + (j - i - 1) = j - 1 by omega] at this
  exact congrArg some this
 have hstr := tkA_str s.Words (i := j - 1) (by omega) h.texts
 have hho := hs.house
 unfold okR at hho
 obtain ⟨nd, hnd⟩ : ∃ nd, needS s.Rate C s.House.Reading = nd := ⟨_, rfl⟩
 rw [hnd] at nd1 nd2 ndb
 have enf : IntKind.i64.wrap (nd.1 - fr) = nd.1 - fr := wr64 (by omega)
 have hroom2 : smP (psp s i j) (j - i) + ((j : Int) - i) ≤ s.House.Rows * (s.House.Cols + 1) := by
  rw [hlen] at hCC hroom
  rw [hCC]
  have e1 : (psp s i j).Rows = s.House.Rows := rfl
  have e2 : (psp s i j).Width = s.House.Cols := rfl
  rw [e1, e2] at hmulr
  rw [e2] at hroom
  omega
 obtain ⟨fa, hfa⟩ : ∃ fa, (if 0 > nd.1 - fr then 0 else nd.1 - fr) = fa := ⟨_, rfl⟩
 have hfab : 0 ≤ fa ∧ fa ≤ 5184000 := by rw [← hfa]; split <;> omega
 have hld : ∀ g : Int, 0 ≤ g → g ≤ 5184000 → ∀ la : Bool, okLd ⟨fa, g, (ins.length : Int), (tkA s.Words (j - 1)).Sg, la⟩ = true := fun g g0 g1 la => by
  unfold okLd wiB
  simp only [Bool.and_eq_true, decide_eq_true_eq]
  omega
 have hev : ∀ l : A_Load, okLd l = true → ((evS s.Table l).2 != 0) = false := fun l hl => by
  unfold evS
  rw [if_neg (by rw [hs.table]; simp), if_pos hl]; rfl
 by_cases hlast : j = s.Words.length
 ·have hbq : ((j : Int) == (s.Words.length : Int)) = true := by simp [hlast]
  have hl2 := hev _ (hld 0 (by omega) (by omega) true)
  have hcb := evS_le s.Table ⟨fa, 0, (ins.length : Int), (tkA s.Words (j - 1)).Sg, true⟩
  obtain ⟨ev, hevv⟩ : ∃ ev, evS s.Table ⟨fa, 0, (ins.length : Int), (tkA s.Words (j - 1)).Sg, true⟩ = ev := ⟨_, rfl⟩
  rw [hevv] at hcb hl2
  have hw : IntKind.i64.wrap (b.Cost + ev.1) = b.Cost + ev.1 := wr64 (by omega)
  have hload : g_sg_load s (tks s.Words) (i : Int) (j : Int) = some ⟨fa, 0, (ins.length : Int), (tkA s.Words (j - 1)).Sg, true⟩ := by
   simp only [g_sg_load, ej, ai, aj, hwsub, Option.bind_some, l1, nd1, hin, t1, hbq, if_true, ef, enf, maxe, hfa]
  refine ⟨(⟨(i : Int), (j : Int), b.Ends, ⟨Wi.Span.In, Wj.Span.Out⟩⟩, b.Cost + ev.1, 0), ?_, fun hc => ?_, hbe, fun _ => ⟨rfl, rfl, by dsimp only; omega, by dsimp only; omega, hroom2, ⟨hck, hpath⟩, by rw [wAt_eq hi', wAt_eq hj', hWi, hWj]⟩⟩
  ·simp only [g_sg_part, hfalse, ej, ed, ef, ai, aj, hv, hsub, g_sg_paragraph, hpsp, hb1, hbne, Option.bind_some, Bool.false_eq_true, if_false, if_true, hload, ev_prog, hevv, hl2, hw]
  ·simp only [g_ref38_Part, hc, bne_self_eq_false, hfalse2, ej, ed, ef, ai, aj, hv, hpar, hb2, hbne, Option.bind_some, Bool.false_eq_true, if_false, if_true, l2, nd2, ref_inside, hin, t2, hbq, enf, hfa, ev_ref, hevv, hw]
 ·have hbq : ((j : Int) == (s.Words.length : Int)) = false := by
   simpa using (by omega : ¬ (j : Int) = (s.Words.length : Int))
  have hj2 : j < s.Words.length := by omega
  have an := atI_nat hj2
  have wn := ckWs_at hs.words j hj2
  have wg := wn.2.1 (by omega)
  have wn := wn.1
  rw [hWj] at wg
  obtain ⟨Wn, hWn⟩ : ∃ Wn, s.Words[j] = Wn := ⟨_, rfl⟩
  rw [hWn] at wn an wg
  have eg : IntKind.i64.wrap (Wn.Span.In - Wj.Span.Out) = Wn.Span.In - Wj.Span.Out := wr64 (by omega)
  have eg2 : IntKind.i64.wrap (s.House.MnG - (Wn.Span.In - Wj.Span.Out)) = s.House.MnG - (Wn.Span.In - Wj.Span.Out) := wr64 (by omega)
  obtain ⟨g, hgg⟩ : ∃ g, (if 0 > s.House.MnG - (Wn.Span.In - Wj.Span.Out) then 0 else s.House.MnG - (Wn.Span.In - Wj.Span.Out)) = g := ⟨_, rfl⟩
  have hgb : 0 ≤ g ∧ g ≤ 5184000 := by rw [← hgg]; split <;> omega
  have hl2 := hev _ (hld g hgb.1 hgb.2 false)
  have hcb := evS_le s.Table ⟨fa, g, (ins.length : Int), (tkA s.Words (j - 1)).Sg, false⟩
  obtain ⟨ev, hevv⟩ : ∃ ev, evS s.Table ⟨fa, g, (ins.length : Int), (tkA s.Words (j - 1)).Sg, false⟩ = ev := ⟨_, rfl⟩
  rw [hevv] at hcb hl2
  have hw : IntKind.i64.wrap (b.Cost + ev.1) = b.Cost + ev.1 := wr64 (by omega)
  have hload : g_sg_load s (tks s.Words) (i : Int) (j : Int) = some ⟨fa, g, (ins.length : Int), (tkA s.Words (j - 1)).Sg, false⟩ := by
   simp only [g_sg_load, ej, ai, aj, an, hwsub, Option.bind_some, l1, nd1, hin, t1, hbq, Bool.false_eq_true, if_false, ef, enf, maxe, hfa, eg, eg2, hgg]
  refine ⟨(⟨(i : Int), (j : Int), b.Ends, ⟨Wi.Span.In, Wj.Span.Out⟩⟩, b.Cost + ev.1, 0), ?_, fun hc => ?_, hbe, fun _ => ⟨rfl, rfl, by dsimp only; omega, by dsimp only; omega, hroom2, ⟨hck, hpath⟩, by rw [wAt_eq hi', wAt_eq hj', hWi, hWj]⟩⟩
  ·simp only [g_sg_part, hfalse, ej, ed, ef, ai, aj, hv, hsub, g_sg_paragraph, hpsp, hb1, hbne, Option.bind_some, Bool.false_eq_true, if_false, if_true, hload, ev_prog, hevv, hl2, hw]
  ·simp only [g_ref38_Part, hc, bne_self_eq_false, hfalse2, ej, ed, ef, ai, aj, an, hv, hpar, hb2, hbne, Option.bind_some, Bool.false_eq_true, if_false, if_true, l2, nd2, ref_inside, hin, t2, hbq, enf, hfa, eg, eg2, hgg, ev_ref, hevv, hw]
theorem awake38 : g_law38_awake = some true := by decide +kernel
structure Szs (s : A_Sh) : Prop where
 rate : 0 ≤ s.Rate ∧ s.Rate ≤ 255
 texts : ∀ w ∈ s.Words, w.Text.length ≤ 1048576
 name : s.House.Name.length ≤ 1048576
 forb : s.House.Fbd.length ≤ 1048576
theorem subH_take {α : Type} (l : List α) (k : Nat) : subH l (if (k : Int) < (l.length : Int) then (k : Int) else (l.length : Int)) = some (l.take k) := by
 unfold subH
 split
 ·rename_i h
  rw [if_pos (by omega), Int.toNat_natCast, Nat.sub_zero, List.drop_zero]
 ·rename_i h
  rw [if_pos (by omega), Int.toNat_natCast, Nat.sub_zero, List.drop_zero, List.take_length, List.take_of_length_le (by omega)]
theorem few_eq {s : A_Sh} (h : Szs s) : ∃ s', g_law38_few s = some s' ∧ Sok s' := by
 refine ⟨⟨s.Rate, s.Words.take 8, s.Shots.take 6, s.Table, s.House⟩, ?_, h.rate, ?_, fun w hw => h.texts w (List.mem_of_mem_take hw), ?_, h.name, h.forb⟩
 ·unfold g_law38_few
  have a := subH_take s.Words 8
  have b := subH_take s.Shots 6
  simp only [Int.cast_ofNat_Int] at a b
  rw [a, b]; rfl
 ·simp; omega
 ·simp; omega
def pq (s : A_Sh) (i j : Nat) : A_Part × Int × Int := (g_sg_part s (tks s.Words) (i : Int) (j : Int)).getD (zPt, 0, 1)
theorem pq_eq {s : A_Sh} (hs : Sv s) {i j : Nat} (hij : i < j) (hj : j ≤ s.Words.length) : g_sg_part s (tks s.Words) (i : Int) (j : Int) = some (pq s i j) ∧ (g_ref38_Check s = some 0 → g_ref38_Part s (i : Int) (j : Int) = some (pq s i j)) ∧ (pq s i j).1.Breaks.length ≤ 4 ∧
  ((pq s i j).2.2 = 0 → (pq s i j).1.From = (i : Int) ∧ (pq s i j).1.To = (j : Int) ∧ 0 ≤ (pq s i j).2.1 ∧ (pq s i j).2.1 ≤ 30000000000000 ∧ smP (psp s i j) (j - i) + ((j : Int) - i) ≤ s.House.Rows * (s.House.Cols + 1) ∧ (ckP (psp s i j) = 0 ∧ ∃ G, (pq s i j).1.Breaks = inl G ∧ RPath (psp s i j) 0 G ∧ (G.length : Int) ≤ s.House.Rows) ∧ (pq s i j).1.Span = ⟨(wAt s i).Span.In, (wAt s (j - 1)).Span.Out⟩) := by
 obtain ⟨q, h1, h2⟩ := part_both hs hij hj
 unfold pq
 rw [h1]
 exact ⟨rfl, h2⟩
def okE (s : A_Sh) (i j : Nat) : Bool := (pq s i j).2.2 == 0
def fl (s : A_Sh) (i : Nat) : List Nat := (List.range' (i + 1) (s.Words.length - i)).filter (okE s i)
def edge (s : A_Sh) (i j : Nat) : T_sg_edge := ⟨(pq s i j).1, (pq s i j).2.1⟩
def ed (s : A_Sh) (i : Nat) : List T_sg_edge := (fl s i).map (edge s i)
def lexlt (a b : Int × Int) : Prop := a.1 < b.1 ∨ a.1 = b.1 ∧ a.2 < b.2
instance (a b : Int × Int) : Decidable (lexlt a b) := by unfold lexlt; infer_instance
def Bst (S : Nat → Prop) (val : Nat → Int × Int) (v : Int × Int) (j : Nat) : Prop := (v = (-1, 0) ∧ ∀ x, ¬ S x) ∨ (S j ∧ v = val j ∧ ∀ x, S x → ¬ lexlt (val x) (val j) ∧ (x < j → lexlt (val j) (val x)))
theorem Bst.congr {S T : Nat → Prop} {val val' : Nat → Int × Int} {v : Int × Int} {j : Nat} (e : ∀ x, S x ↔ T x) (ev : ∀ x, S x → val x = val' x) (h : Bst S val v j) : Bst T val' v j := by
 rcases h with ⟨h1, h2⟩ | ⟨h1, h2, h3⟩
 ·exact .inl ⟨h1, fun x hx => h2 x ((e x).2 hx)⟩
 ·refine .inr ⟨(e j).1 h1, by rw [h2, ev j h1], fun x hx => ?_⟩
  have hx' := (e x).2 hx
  rw [← ev j h1, ← ev x hx']
  exact h3 x hx'
theorem Bst.none {S : Nat → Prop} {val : Nat → Int × Int} {j : Nat} (h : ∀ x, ¬ S x) : Bst S val (-1, 0) j := .inl ⟨rfl, h⟩
theorem Bst.step {S : Nat → Prop} {val : Nat → Int × Int} {v : Int × Int} {j J : Nat} (hJ : ∀ x, S x → x < J) (h0 : ∀ x, S x → 0 ≤ (val x).1) (h : Bst S val v j) :
  Bst (fun x => S x ∨ x = J) val (if v.1 = -1 ∨ lexlt (val J) v then val J else v) (if v.1 = -1 ∨ lexlt (val J) v then J else j) := by
 rcases h with ⟨h1, h2⟩ | ⟨h1, h2, h3⟩
 ·have hv : v.1 = -1 := by rw [h1]
  rw [if_pos (.inl hv), if_pos (.inl hv)]
  refine .inr ⟨.inr rfl, rfl, fun x hx => ?_⟩
  rcases hx with hx | rfl
  ·exact absurd hx (h2 x)
  ·exact ⟨fun hl => by unfold lexlt at hl; omega, fun h => by omega⟩
 ·have hv : ¬ v.1 = -1 := by have := h0 j h1; rw [h2]; omega
  have hjJ := hJ j h1
  by_cases hl : lexlt (val J) v
  ·rw [if_pos (.inr hl), if_pos (.inr hl)]
   rw [h2] at hl
   refine .inr ⟨.inr rfl, rfl, fun x hx => ?_⟩
   rcases hx with hx | rfl
   ·have := (h3 x hx).1
    unfold lexlt at *
    exact ⟨by omega, fun _ => by omega⟩
   ·exact ⟨fun hl => by unfold lexlt at hl; omega, fun h => by omega⟩
  ·rw [if_neg (by intro h; rcases h with h | h; exact hv h; exact hl h), if_neg (by intro h; rcases h with h | h; exact hv h; exact hl h)]
   refine .inr ⟨.inl h1, h2, fun x hx => ?_⟩
   rcases hx with hx | rfl
   ·exact h3 x hx
   ·rw [h2] at hl
    exact ⟨hl, fun h => by omega⟩
theorem Bst.uniq {S : Nat → Prop} {val : Nat → Int × Int} {v v' : Int × Int} {j j' : Nat} (h0 : ∀ x, S x → 0 ≤ (val x).1) (h : Bst S val v j) (h' : Bst S val v' j') : v = v' ∧ (v.1 ≠ -1 → j = j') := by
 rcases h with ⟨h1, h2⟩ | ⟨h1, h2, h3⟩
 ·rcases h' with ⟨k1, _⟩ | ⟨k1, _, _⟩
  ·exact ⟨by rw [h1, k1], fun h => by rw [h1] at h; exact absurd rfl h⟩
  ·exact absurd k1 (h2 _)
 ·rcases h' with ⟨_, k2⟩ | ⟨k1, k2, k3⟩
  ·exact absurd h1 (k2 _)
  ·have a := h3 j' k1
   have b := k3 j h1
   have e : val j = val j' := by
    unfold lexlt at a b
    refine Prod.ext ?_ ?_ <;> omega
   refine ⟨by rw [h2, k2, e], fun _ => ?_⟩
   rcases Nat.lt_trichotomy j j' with q | q | q
   ·have := b.2 q; unfold lexlt at this; rw [e] at this; omega
   ·exact q
   ·have := a.2 q; unfold lexlt at this; rw [e] at this; omega
theorem Bst.some {S : Nat → Prop} {val : Nat → Int × Int} {v : Int × Int} {j : Nat} (h : Bst S val v j) (hv : v.1 ≠ -1) : S j ∧ v = val j ∧ ∀ x, S x → ¬ lexlt (val x) (val j) ∧ (x < j → lexlt (val j) (val x)) := by
 rcases h with ⟨h1, _⟩ | h
 ·rw [h1] at hv; exact absurd rfl hv
 ·exact h
section
variable (n : Nat) (ok : Nat → Nat → Bool) (c : Nat → Nat → Int)
def cnd (C : Nat → Int) (i j : Nat) : Prop := i < j ∧ j ≤ n ∧ ok i j = true ∧ C j ≠ -1
def vl (C Pn : Nat → Int) (i j : Nat) : Int × Int := (c i j + C j, Pn j + 1)
structure DPx (m : Nat) (C Pn : Nat → Int) (nx : Nat → Nat) : Prop where
 n0 : C n = 0
 p0 : Pn n = 0
 nn : ∀ k, m ≤ k → k ≤ n → -1 ≤ C k
 bst : ∀ k, m ≤ k → k < n → Bst (cnd n ok C k) (vl c C Pn k) (C k, Pn k) (nx k)
variable {n ok c}
variable (n ok c) in
inductive Way (C : Nat → Int) (nx : Nat → Nat) : Nat → List (Nat × Nat) → Prop
 | nil : Way C nx n []
 | cons {i : Nat} {L : List (Nat × Nat)} : i < n → C i ≠ -1 → cnd n ok C i (nx i) → Way C nx (nx i) L → Way C nx i ((i, nx i) :: L)
end
def csq (s : A_Sh) (i j : Nat) : Int := (pq s i j).2.1
def okQ (s : A_Sh) (i j : Nat) : Bool := decide (i < j) && decide (j ≤ s.Words.length) && okE s i j
abbrev Cn (s : A_Sh) := cnd s.Words.length (okQ s)
structure BestTo (s : A_Sh) (C Pn : Nat → Int) (i : Nat) (m : List (Int × Int)) : Prop where
 len : m.length = s.Words.length + 1
 done : ∀ k, i ≤ k → k ≤ s.Words.length → m[k]? = some (C k, Pn k)
 todo : ∀ k, k < i → m[k]? = some (0, 0)
instance (s : A_Sh) (C : Nat → Int) (i j : Nat) : Decidable (Cn s C i j) := by unfold Cn cnd; infer_instance
def ckCh (n : Int) : Int → List A_Part → Option Int
 | a, [] => some a
 | a, p :: l => if p.From ≠ a ∨ p.To ≤ p.From ∨ n < p.To then none else ckCh n p.To l
theorem ckCh_cons (n a : Int) (p : A_Part) (l : List A_Part) : ckCh n a (p :: l) = if p.From ≠ a ∨ p.To ≤ p.From ∨ n < p.To then none else ckCh n p.To l := rfl
inductive Pa (n : Nat) : Nat → List (Nat × Nat) → Prop
 | nil : Pa n n []
 | cons {i j : Nat} {L : List (Nat × Nat)} : i < j → j ≤ n → Pa n j L → Pa n i ((i, j) :: L)
def inP (L : List (Nat × Nat)) : List (Int × Int) := L.map fun q => ((q.1 : Int), (q.2 : Int))
theorem chain_pa {n : Nat} : ∀ {l : List A_Part} {a : Nat}, a ≤ n → ckCh n a l = some (n : Int) → ∃ L, l.map (fun p => (p.From, p.To)) = inP L ∧ Pa n a L
 | [], a, ha, h => by
  unfold ckCh at h
  injection h with h
  obtain rfl : a = n := by omega
  exact ⟨[], rfl, .nil⟩
 | p :: l, a, ha, h => by
  unfold ckCh at h
  by_cases hq : p.From ≠ a ∨ p.To ≤ p.From ∨ (n : Int) < p.To
  ·rw [if_pos hq] at h; cases h
  ·rw [if_neg hq] at h
   obtain ⟨b, hb⟩ : ∃ b : Nat, p.To = (b : Int) := ⟨p.To.toNat, by omega⟩
   rw [hb] at h hq
   obtain ⟨L, h1, h2⟩ := chain_pa (a := b) (by omega) h
   refine ⟨(a, b) :: L, ?_, .cons (by omega) (by omega) h2⟩
   rw [List.map_cons, h1, hb]
   show (p.From, (b : Int)) :: inP L = ((a : Int), (b : Int)) :: inP L
   rw [show p.From = (a : Int) by omega]
theorem pa_mem {n a : Nat} {L : List (Nat × Nat)} (h : Pa n a L) : ∀ q ∈ L, a ≤ q.1 ∧ q.1 < q.2 ∧ q.2 ≤ n := by
 induction h with
 | nil => simp
 | cons h1 h2 h3 ih =>
  intro q hq
  rcases List.mem_cons.1 hq with rfl | hq
  ·exact ⟨Nat.le_refl _, h1, h2⟩
  ·have := ih q hq; omega
theorem chain_loop {s : A_Sh} (hn : s.Words.length ≤ 8) (l : List A_Part) (hl : l.length ≤ 10) : iter (g_sg_cost_s1 s l) (0, 0) = some (match ckCh s.Words.length 0 l with | none => .inl () | some a => .inr a) := by
 refine iter_of (fun x e => e = (match ckCh s.Words.length 0 l with | none => .inl () | some a => .inr a) ∧ ∃ i : Nat, x.2 = (i : Int) ∧ i ≤ l.length ∧ ckCh s.Words.length x.1 (l.drop i) = ckCh s.Words.length 0 l) (fun x => l.length - x.2.toNat) ?_ (x := (0, 0)) ⟨rfl, 0, rfl, by omega, by simp⟩ (by show l.length - 0 < _; omega)
 rintro ⟨a, x⟩ e ⟨rfl, i, hx, hi, hc⟩
 dsimp only at hx hc ⊢
 subst hx
 unfold g_sg_cost_s1
 dsimp only
 by_cases h : i < l.length
 ·rw [List.drop_eq_getElem_cons h] at hc
  rw [ckCh_cons] at hc
  rw [if_pos (by simpa using h), atI_nat h, wr64 (x := (i : Int) + 1) (by omega)]
  simp only [Option.bind_some]
  generalize l[i] = p at hc ⊢
  have e1 : (if (p.From != a) = true then some true else if decide (p.To ≤ p.From) = true then some true else some (decide ((s.Words.length : Int) < p.To)) : Option Bool) = some (decide (p.From ≠ a ∨ p.To ≤ p.From ∨ (s.Words.length : Int) < p.To)) := by
   by_cases q1 : p.From = a
   ·by_cases q2 : p.To ≤ p.From
    ·have q3 : p.To ≤ a := by omega
     simp [q1, q3]
    ·have q3 : ¬ p.To ≤ a := by omega
     simp [q1, q3]
   ·simp [q1]
  rw [e1]
  simp only [Option.bind_some]
  by_cases hq : p.From ≠ a ∨ p.To ≤ p.From ∨ (s.Words.length : Int) < p.To
  ·right
   rw [if_pos hq] at hc
   rw [if_pos (by rw [decide_eq_true_iff]; exact hq), ← hc]
  ·left
   rw [if_neg hq] at hc
   rw [if_neg (by rw [decide_eq_true_iff]; exact hq)]
   exact ⟨_, rfl, ⟨by first | rfl | trivial, i + 1, rfl, h, hc⟩, by dsimp only; omega⟩
 ·right
  rw [List.drop_eq_nil_of_le (by omega)] at hc
  rw [if_neg (by simpa using h), ← hc]
  rfl
def csL (s : A_Sh) : List (Nat × Nat) → Int ⊕ (List A_Part × Int)
 | [] => .inr ([], 0)
 | q :: L => if okE s q.1 q.2 then (match csL s L with | .inl e => .inl e | .inr r => .inr ((pq s q.1 q.2).1 :: r.1, csq s q.1 q.2 + r.2)) else .inl (pq s q.1 q.2).2.2
theorem csL_cons (s : A_Sh) (q : Nat × Nat) (L : List (Nat × Nat)) : csL s (q :: L) = if okE s q.1 q.2 then (match csL s L with | .inl e => .inl e | .inr r => .inr ((pq s q.1 q.2).1 :: r.1, csq s q.1 q.2 + r.2)) else .inl (pq s q.1 q.2).2.2 := rfl
def csF (out : List A_Part) (sum : Int) : Int ⊕ (List A_Part × Int) → Int ⊕ (List A_Part × Int)
 | .inl e => .inl e
 | .inr r => .inr (out ++ r.1, sum + r.2)
theorem csF_cons (s : A_Sh) (out : List A_Part) (sum : Int) (i j : Nat) (L : List (Nat × Nat)) (h : okE s i j = true) : csF out sum (csL s ((i, j) :: L)) = csF (out ++ [(pq s i j).1]) (sum + csq s i j) (csL s L) := by
 rw [csL_cons, if_pos h]
 cases csL s L with
 | inl e => rfl
 | inr r => simp [csF, Int.add_assoc]
theorem sum_loopP {s : A_Sh} (hs : Sv s) {l : List A_Part} {L : List (Nat × Nat)} (hl : l.map (fun p => (p.From, p.To)) = inP L) (hL : ∀ q ∈ L, q.1 < q.2 ∧ q.2 ≤ s.Words.length) (hn : L.length ≤ 10) :
  iter (g_sg_cost_s2 s l (tks s.Words)) ([], 0, 0) = some (csL s L) := by
 have hll : l.length = L.length := by
  have := congrArg List.length hl
  simpa [inP] using this
 have e0 : csL s L = csF [] 0 (csL s L) := by
  cases csL s L with
  | inl e => rfl
  | inr r => simp [csF]
 rw [e0]
 refine iter_of (fun x e => e = csF [] 0 (csL s L) ∧ ∃ i : Nat, x.2.2 = (i : Int) ∧ i ≤ L.length ∧ csF x.1 x.2.1 (csL s (L.drop i)) = csF [] 0 (csL s L) ∧ x.1.length = i ∧ 0 ≤ x.2.1 ∧ x.2.1 ≤ (i : Int) * 30000000000000) (fun x => L.length - x.2.2.toNat) ?_ (x := ([], 0, 0)) ⟨rfl, 0, rfl, by omega, by simp, rfl, by simp, by simp⟩ (by show L.length - 0 < _; omega)
 rintro ⟨out, sum, x⟩ e ⟨rfl, i, hx, hi, hc, hol, h0, h1⟩
 dsimp only at hx hc hol h0 h1 ⊢
 subst hx
 unfold g_sg_cost_s2
 dsimp only
 rw [hll]
 by_cases h : i < L.length
 ·have hli : i < l.length := by omega
  have hp : (l[i].From, l[i].To) = ((L[i].1 : Int), (L[i].2 : Int)) := by
   have a : (l.map (fun p => (p.From, p.To)))[i]'(by simpa using hli) = (inP L)[i]'(by simpa [inP] using h) := by
    congr 1
   simpa [inP] using a
  injection hp with hp1 hp2
  have hq := hL _ (List.getElem_mem h)
  obtain ⟨q1, q2, q3, q4⟩ := pq_eq hs hq.1 hq.2
  rw [List.drop_eq_getElem_cons h] at hc
  rw [if_pos (by simpa using h), atI_nat hli]
  simp only [Option.bind_some]
  rw [hp1, hp2, q1]
  simp only [Option.bind_some]
  by_cases he : (pq s L[i].1 L[i].2).2.2 = 0
  ·left
   have hok : okE s L[i].1 L[i].2 = true := by simp [okE, he]
   have q5 := q4 he
   have hb : (pq s L[i].1 L[i].2).2.1 = csq s L[i].1 L[i].2 := rfl
   have hb2 : 0 ≤ csq s L[i].1 L[i].2 ∧ csq s L[i].1 L[i].2 ≤ 30000000000000 := ⟨q5.2.2.1, q5.2.2.2.1⟩
   rw [show L[i] = (L[i].1, L[i].2) from rfl, csF_cons s out sum _ _ _ hok] at hc
   rw [if_neg (by simpa using he), if_pos (by omega), hb, wr64 (x := sum + csq s L[i].1 L[i].2) (by omega), wr64 (x := (i : Int) + 1) (by omega)]
   exact ⟨_, rfl, ⟨by first | rfl | trivial, i + 1, rfl, h, hc, by simp [hol], by dsimp only; omega, by dsimp only; omega⟩, by dsimp only; omega⟩
  ·right
   have hok : okE s L[i].1 L[i].2 = false := by simp [okE, he]
   rw [if_pos (by simpa using he), ← hc]
   rw [csL_cons, if_neg (by rw [hok]; simp)]
   rfl
 ·right
  rw [List.drop_eq_nil_of_le (by omega)] at hc
  rw [if_neg (by simpa using h), ← hc]
  simp [csL, csF]
theorem cost_prog {s : A_Sh} (hs : Sv s) (l : List A_Part) (hl : l.length ≤ 10) :
  (ckCh s.Words.length 0 l ≠ some (s.Words.length : Int) ∧ g_sg_cost s l = some ([], 0, 1)) ∨
  ∃ L, l.map (fun p => (p.From, p.To)) = inP L ∧ Pa s.Words.length 0 L ∧ g_sg_cost s l = some (match csL s L with | .inl e => ([], 0, e) | .inr r => (r.1, r.2, 0)) := by
 have hn := hs.ok.words
 by_cases hc : ckCh s.Words.length 0 l = some (s.Words.length : Int)
 ·right
  obtain ⟨L, h1, h2⟩ := chain_pa (n := s.Words.length) (a := 0) (by omega) hc
  have hlen : L.length ≤ 10 := by
   have := congrArg List.length h1
   simp [inP] at this
   omega
  refine ⟨L, h1, h2, ?_⟩
  have e2 := sum_loopP hs h1 (fun q hq => (pa_mem h2 q hq).2) hlen
  unfold g_sg_cost
  rw [chain_loop hn l hl, hc]
  simp only [Option.bind_some]
  rw [if_neg (by simp), tokens_eq hs.ok]
  simp only [Option.bind_some]
  rw [e2]
  simp only [Option.bind_some]
  cases csL s L <;> rfl
 ·left
  refine ⟨hc, ?_⟩
  unfold g_sg_cost
  rw [chain_loop hn l hl]
  cases hcc : ckCh s.Words.length 0 l with
  | none => rfl
  | some a =>
   have : a ≠ (s.Words.length : Int) := fun e => hc (by rw [hcc, e])
   simp only [Option.bind_some]
   rw [if_pos (by simpa using this)]
def sumW (s : A_Sh) : List (Nat × Nat) → Int
 | [] => 0
 | q :: L => csq s q.1 q.2 + sumW s L
theorem csL_inr {s : A_Sh} : ∀ {L : List (Nat × Nat)} {r : List A_Part × Int}, csL s L = .inr r → (∀ q ∈ L, okE s q.1 q.2 = true) ∧ r = (L.map (fun q => (pq s q.1 q.2).1), sumW s L)
 | [], r, h => by
  unfold csL at h
  injection h with h
  exact ⟨by simp, h.symm⟩
 | q :: L, r, h => by
  rw [csL_cons] at h
  by_cases hq : okE s q.1 q.2 = true
  ·rw [if_pos hq] at h
   cases hL : csL s L with
   | inl e => rw [hL] at h; cases h
   | inr r' =>
    rw [hL] at h
    obtain ⟨h1, h2⟩ := csL_inr hL
    injection h with h
    refine ⟨fun p hp => ?_, ?_⟩
    ·rcases List.mem_cons.1 hp with rfl | hp
     ·exact hq
     ·exact h1 p hp
    ·rw [← h, h2]; rfl
  ·rw [if_neg hq] at h; cases h
open Go.RowKit
theorem dd_EI : (∀ x, A_Span.d x = .agg [.int .i64 x.In, .int .i64 x.Out]) := fun _ => rfl
def g_ref38_Cost_s1 (s_0 : A_Sh) (l_1 : List A_Part) (x18 : Int × Int) : Option (Nx (Int × Int) (Unit ⊕ Int)) :=
 (if (decide (x18.2 < (l_1.length : Int))) then ((atI l_1 x18.2).bind fun y128 => (((if (y128.From != x18.1) then (some true) else (if (decide (y128.To ≤ x18.1)) then (some true) else (some (decide ((s_0.Words.length : Int) < y128.To))))) : Option (Bool)).bind fun v133 => (if v133 then (some (.out (.inl ()))) else (some (.go (y128.To, (IntKind.i64.wrap (x18.2 + 1)))))))) else (some (.out (.inr x18.1))))
def g_ref38_Cost_s2 (s_0 : A_Sh) (l_1 : List A_Part) (x153 : Int × Int) : Option (Nx (Int × Int) (Int ⊕ Int)) :=
 (if (decide (x153.2 < (l_1.length : Int))) then ((atI l_1 x153.2).bind fun y263 => ((g_ref38_Part s_0 y263.From y263.To).bind fun r269 => (if (r269.2.2 != 0) then (some (.out (.inl r269.2.2))) else (some (.go ((IntKind.i64.wrap (x153.1 + r269.2.1)), (IntKind.i64.wrap (x153.2 + 1)))))))) else (some (.out (.inr x153.1))))
def g_ref38_Cost (s_0 : A_Sh) (l_1 : List A_Part) : Option (Int × Int) :=
 ((g_ref38_Check s_0).bind fun r7 => (if (r7 != 0) then (some (0, r7)) else ((iter (g_ref38_Cost_s1 s_0 l_1) (0, 0)).bind fun e19 => (match e19 with | Sum.inl e19 => (some (0, 1)) | Sum.inr (e19) => (if (e19 != (s_0.Words.length : Int)) then (some (0, 1)) else ((iter (g_ref38_Cost_s2 s_0 l_1) (0, 0)).bind fun e154 => (match e154 with | Sum.inl e154 => (some (0, e154)) | Sum.inr (e154) => (some (e154, 0)))))))))
theorem a_ref38_Cost {I : World → Prop} (hI : Stab I) {s_0 : A_Sh} {l_1 : List A_Part} {r : Int × Int} (h : g_ref38_Cost s_0 l_1 = some r) : AFun Tryz.prog I 20 [A_Sh.d s_0, .sl (l_1.map A_Part.d)] (.tup [.int .i64 r.1, .int .i64 r.2]) := by
 have dd := And.intro dd_EI <| And.intro dd_EB <| And.intro dd_EA dd_ED; have k := True.intro; have q := k; have rs := Tryz.results20
 unfold g_ref38_Cost at h
 refine .en hI Tryz.func20 Tryz.ntmps20 ?_
 refine xs <| rz ?_
 refine es <| xs <| xs <| rK fun K6 RK6 hK6 gK6 => zz ?_
 obtain ⟨r7, h8, h⟩ := bs h
 refine cw (a_ref38_Check hI h8) <| zz ?_
 subst hK6 gK6
 refine es <| xs <| rz ?_
 refine es ?_
 obtain ⟨k,h⟩|⟨k,h⟩:=iK k h
 ·refine xt <| xs <| rz ?_
  refine es <| xr <| er ?_
  cases h
  exact en fr
 ·refine xf <| xk <| es <| xs <| rz ?_
  refine es <| xs <| xs <| rz ?_
  refine es <| xb ?_
  obtain ⟨e19, h143, h⟩ := bs h
  refine rb_loop (fun x18 => ⟨envL [(1, .sl (l_1.map A_Part.d)), (2, .ptr 0 0), (7, .int .i64 x18.1), (21, .sl (l_1.map A_Part.d)), (22, .int .i64 (l_1.length : Int)), (23, .int .i64 x18.2)], heapL [(0, .box none [.int .u8 s_0.Rate, .sl (s_0.Words.map A_Word.d), .sl (s_0.Shots.map (D.int .i64)), .int .i64 s_0.Table.Sg.a0, .int .i64 s_0.Table.Sg.a1, .int .i64 s_0.Table.Sg.a2, .int .i64 s_0.Table.Sg.a3, .int .i64 s_0.Table.Sg.a4, .int .i64 s_0.Table.Sg.a5, .int .i64 s_0.Table.Rgd, .int .i64 s_0.Table.Row, .int .i64 s_0.Table.Event, .int .i64 s_0.Table.Fast, .int .i64 s_0.Table.Gap, .int .i64 s_0.Table.Shot, .str s_0.House.Name, .int .i64 s_0.House.Reading, .int .i64 s_0.House.MnF, .int .i64 s_0.House.MxF, .int .i64 s_0.House.MnG, .int .i64 s_0.House.ShB, .int .i64 s_0.House.ShA, .int .i64 s_0.House.Rows, .int .i64 s_0.House.Cols, .str s_0.House.Fbd, .int .i64 s_0.House.SfT, .int .i64 s_0.House.SfB, .int .i64 s_0.House.SfL, .int .i64 s_0.House.SfR])], 1, 77⟩) (fun w => match w with | Sum.inl _ => .ret | Sum.inr (_) => .exit 0) (fun w => match w with | Sum.inl e19 => ⟨envL [(4, .int .i64 0), (5, .int .i64 1)], heapL [], 0, 77⟩ | Sum.inr (e19) => ⟨envL [(1, .sl (l_1.map A_Part.d)), (2, .ptr 0 0), (7, .int .i64 e19)], heapL [(0, .box none [.int .u8 s_0.Rate, .sl (s_0.Words.map A_Word.d), .sl (s_0.Shots.map (D.int .i64)), .int .i64 s_0.Table.Sg.a0, .int .i64 s_0.Table.Sg.a1, .int .i64 s_0.Table.Sg.a2, .int .i64 s_0.Table.Sg.a3, .int .i64 s_0.Table.Sg.a4, .int .i64 s_0.Table.Sg.a5, .int .i64 s_0.Table.Rgd, .int .i64 s_0.Table.Row, .int .i64 s_0.Table.Event, .int .i64 s_0.Table.Fast, .int .i64 s_0.Table.Gap, .int .i64 s_0.Table.Shot, .str s_0.House.Name, .int .i64 s_0.House.Reading, .int .i64 s_0.House.MnF, .int .i64 s_0.House.MxF, .int .i64 s_0.House.MnG, .int .i64 s_0.House.ShB, .int .i64 s_0.House.ShA, .int .i64 s_0.House.Rows, .int .i64 s_0.House.Cols, .str s_0.House.Fbd, .int .i64 s_0.House.SfT, .int .i64 s_0.House.SfB, .int .i64 s_0.House.SfL, .int .i64 s_0.House.SfR])], 1, 77⟩) h143 (wk []) (by intro w; rcases w with w | w <;> simp) ?_ ?_
  ·clear h
   intro x18 y h
   unfold g_ref38_Cost_s1 at h
   refine xs <| rz ?_
   refine es <| xs ?_
   obtain ⟨k,h⟩|⟨k,h⟩:=iK k h
   ·refine xt <| xk <| es <| xs <| xb <| xs <| rK fun K127 RK127 hK127 gK127 => zz ?_
    obtain ⟨y128, q, h⟩ := bK q h
    refine zz ?_
    subst hK127 gK127
    refine es <| xs ?_
    obtain ⟨v133, h137, h⟩ := bs h
    refine rb_cut (fun v133 => ⟨envL [(1, .sl (l_1.map A_Part.d)), (2, .ptr 0 0), (9, .ptr 1 0), (21, .sl (l_1.map A_Part.d)), (22, .int .i64 (l_1.length : Int)), (23, .int .i64 x18.2), (44, .bool v133)], heapL [(0, .box none [.int .u8 s_0.Rate, .sl (s_0.Words.map A_Word.d), .sl (s_0.Shots.map (D.int .i64)), .int .i64 s_0.Table.Sg.a0, .int .i64 s_0.Table.Sg.a1, .int .i64 s_0.Table.Sg.a2, .int .i64 s_0.Table.Sg.a3, .int .i64 s_0.Table.Sg.a4, .int .i64 s_0.Table.Sg.a5, .int .i64 s_0.Table.Rgd, .int .i64 s_0.Table.Row, .int .i64 s_0.Table.Event, .int .i64 s_0.Table.Fast, .int .i64 s_0.Table.Gap, .int .i64 s_0.Table.Shot, .str s_0.House.Name, .int .i64 s_0.House.Reading, .int .i64 s_0.House.MnF, .int .i64 s_0.House.MxF, .int .i64 s_0.House.MnG, .int .i64 s_0.House.ShB, .int .i64 s_0.House.ShA, .int .i64 s_0.House.Rows, .int .i64 s_0.House.Cols, .str s_0.House.Fbd, .int .i64 s_0.House.SfT, .int .i64 s_0.House.SfB, .int .i64 s_0.House.SfL, .int .i64 s_0.House.SfR]), (1, .box none [.int .i64 y128.From, .int .i64 y128.To, .sl (y128.Breaks.map (D.int .i64)), .int .i64 y128.Span.In, .int .i64 y128.Span.Out])], 2, 77⟩) h137 ?_ ?_
    ·clear h
     intro v133 h
     refine rK fun K134 RK134 hK134 gK134 => zz ?_
     obtain ⟨k,h⟩|⟨k,h⟩:=iK k h
     ·refine zz ?_
      subst hK134 gK134
      cases h
      exact en ⟨rfl, wk [(1, some 4)]⟩
     ·refine zz ?_
      obtain ⟨k,h⟩|⟨k,h⟩:=iK k h
      ·refine zz ?_
       subst hK134 gK134
       cases h
       exact en ⟨rfl, wk [(1, some 4)]⟩
      ·refine zz ?_
       subst hK134 gK134
       cases h
       exact en ⟨rfl, wk [(1, some 4)]⟩
    ·obtain ⟨k,h⟩|⟨k,h⟩:=iK k h
     ·refine xt <| xs <| rz ?_
      refine es <| xr <| er <| br <| er ?_
      cases h
      exact en ⟨rfl, wk []⟩
     ·refine xf <| xk <| es <| rz ?_
      refine bn <| es <| rz ?_
      cases h
      exact en ⟨rfl, wk []⟩
   ·refine xf <| xx <| ee ?_
    cases h
    exact en ⟨rfl, wk []⟩
  ·rcases e19 with e19 | e19
   ·try dsimp only at h ⊢
    refine br <| er ?_
    cases h
    exact en fr
   ·try dsimp only at h ⊢
    refine bh <| es <| xs <| xs <| rz ?_
    refine es ?_
    obtain ⟨k,h⟩|⟨k,h⟩:=iK k h
    ·refine xt <| xs <| rz ?_
     refine es <| xr <| er ?_
     cases h
     exact en fr
    ·refine xf <| xk <| es <| xs <| rz ?_
     refine es <| xs <| xs <| rz ?_
     refine es <| xb ?_
     obtain ⟨e154, h278, h⟩ := bs h
     refine rb_loop (fun x153 => ⟨envL [(2, .ptr 0 0), (10, .int .i64 x153.1), (53, .sl (l_1.map A_Part.d)), (54, .int .i64 (l_1.length : Int)), (55, .int .i64 x153.2)], heapL [(0, .box none [.int .u8 s_0.Rate, .sl (s_0.Words.map A_Word.d), .sl (s_0.Shots.map (D.int .i64)), .int .i64 s_0.Table.Sg.a0, .int .i64 s_0.Table.Sg.a1, .int .i64 s_0.Table.Sg.a2, .int .i64 s_0.Table.Sg.a3, .int .i64 s_0.Table.Sg.a4, .int .i64 s_0.Table.Sg.a5, .int .i64 s_0.Table.Rgd, .int .i64 s_0.Table.Row, .int .i64 s_0.Table.Event, .int .i64 s_0.Table.Fast, .int .i64 s_0.Table.Gap, .int .i64 s_0.Table.Shot, .str s_0.House.Name, .int .i64 s_0.House.Reading, .int .i64 s_0.House.MnF, .int .i64 s_0.House.MxF, .int .i64 s_0.House.MnG, .int .i64 s_0.House.ShB, .int .i64 s_0.House.ShA, .int .i64 s_0.House.Rows, .int .i64 s_0.House.Cols, .str s_0.House.Fbd, .int .i64 s_0.House.SfT, .int .i64 s_0.House.SfB, .int .i64 s_0.House.SfL, .int .i64 s_0.House.SfR])], 1, 77⟩) (fun w => match w with | Sum.inl _ => .ret | Sum.inr (_) => .exit 2) (fun w => match w with | Sum.inl e154 => ⟨envL [(4, .int .i64 0), (5, .int .i64 e154)], heapL [], 0, 77⟩ | Sum.inr (e154) => ⟨envL [(10, .int .i64 e154)], heapL [], 0, 77⟩) h278 (wk []) (by intro w; rcases w with w | w <;> simp) ?_ ?_
     ·clear h
      intro x153 y h
      unfold g_ref38_Cost_s2 at h
      refine xs <| rz ?_
      refine es <| xs ?_
      obtain ⟨k,h⟩|⟨k,h⟩:=iK k h
      ·refine xt <| xk <| es <| xs <| xb <| xs <| rK fun K262 RK262 hK262 gK262 => zz ?_
       obtain ⟨y263, q, h⟩ := bK q h
       refine zz ?_
       subst hK262 gK262
       refine es <| xs <| rK fun K268 RK268 hK268 gK268 => zz ?_
       obtain ⟨r269, h270, h⟩ := bs h
       refine cw (a_ref38_Part hI h270) <| zz ?_
       subst hK268 gK268
       refine es <| xs <| xs <| rz ?_
       refine es ?_
       obtain ⟨k,h⟩|⟨k,h⟩:=iK k h
       ·refine xt <| xs <| rz ?_
        refine es <| xr <| er <| br <| er ?_
        cases h
        exact en ⟨rfl, wk []⟩
       ·refine xf <| xk <| es <| rz ?_
        refine bn <| es <| rz ?_
        cases h
        exact en ⟨rfl, wk []⟩
      ·refine xf <| xx <| ee ?_
       cases h
       exact en ⟨rfl, wk []⟩
     ·rcases e154 with e154 | e154
      ·try dsimp only at h ⊢
       refine br <| er ?_
       cases h
       exact en fr
      ·try dsimp only at h ⊢
       refine bh <| es <| xs <| rz ?_
       refine es <| xr ?_
       cases h
       exact en fr
end Go.Proofs.YtalfcmgcjdkolaaGreatDoor


namespace Go.Proofs.YtalfcmgcjdkolaaGreatDoor
open Go.RowKit
set_option maxRecDepth 100000
theorem a_Join (I : World → Prop) (l : List (List UInt8)) (sep : List UInt8) (hne : l ≠ []) (h1 : l.length ≤ 140737488355328) (h2 : (Lib.join l sep).length ≤ 140737488355328) : AFun Tryz.prog I 134 [.sl (l.map D.str), .str sep] (.str (Lib.join l sep)) := by
 refine AFun.of_calls (v := .string ⟨(Lib.join l sep).toArray⟩) (by kernel_rfl) (fun w F => .str _ (by unfold maxLen; omega)) ?_
 intro w F args hI hfb hl hr
 match args, hl with
 | [v1, v2], _ =>
  obtain ⟨rfl, _⟩ := rep_str1 (hr 1 v2 _ rfl rfl)
  have hv := hr 0 v1 _ rfl rfl
  generalize hxs : l.map D.str = xs at hv
  cases hv with
  | sl0 A c hm => exact absurd (List.map_eq_nil_iff.1 hxs) hne
  | sl b off k c _ vals hc hm hk hlv hone hF hcell hrep =>
   subst hxs
   rw [flat_strs] at hlv hrep
   have hpos : 0 < vals.length := by rw [hlv, List.length_map]; exact List.length_pos_iff.2 hne
   have hb : b < w.heap.size := hfb b (off + 0) (hF 0 hpos)
   have hmm : (l.map fun s => (⟨s.toArray⟩ : ByteArray)).map (·.data.toList) = l := by rw [List.map_map]; exact List.map_id'' (fun s => by simp) l
   have := Tryz.strings_Join b off c (l.map fun s => (⟨s.toArray⟩ : ByteArray)) ⟨sep.toArray⟩ w (fun j x hx => by
    simp only [List.getElem?_map] at hx
    cases hj : l[j]? with
    | none => rw [hj] at hx; simp at hx
    | some s =>
     rw [hj] at hx
     simp at hx
     subst hx
     have hjl : j < vals.length := by rw [hlv, List.length_map]; exact (List.getElem?_eq_some_iff.1 hj).1
     have hv := hrep j _ (.str s) (List.getElem?_eq_getElem hjl) (by simp [hj])
     obtain ⟨hv, _⟩ := rep_str1 hv
     rw [hcell j _ (List.getElem?_eq_getElem hjl), hv]) hb (by simpa using h1) (by simpa using hc) (by rw [hmm]; exact h2)
   rw [hmm] at this
   simpa using this
def g_strings_Join (l : List (List UInt8)) (sep : List UInt8) : Option (List UInt8) := if l.length ≤ 140737488355328 ∧ (Lib.join l sep).length ≤ 140737488355328 then some (Lib.join l sep) else none
theorem a_strings_Join (I : World → Prop) (hI : Stab I) (l : List (List UInt8)) (sep : List UInt8) {r : List UInt8} (h : g_strings_Join l sep = some r) : AFun Tryz.prog I 134 [.sl (l.map D.str), .str sep] (.str r) := by
 unfold g_strings_Join at h
 obtain ⟨hc, h⟩ := ite_on h
 obtain rfl := Option.some.inj h
 by_cases hne : l = []
 ·subst hne
  refine AFun.of_calls (v := .string ⟨#[]⟩) (by kernel_rfl) (fun w F => ?_) ?_
  ·have : (Lib.join ([] : List (List UInt8)) sep) = [] := rfl
   rw [this]
   exact .str [] (by simp)
  ·intro w F args hI hfb hl hr
   match args, hl with
   | [v1, v2], _ =>
    obtain ⟨rfl, _⟩ := rep_str1 (hr 1 v2 _ rfl rfl)
    have hv := hr 0 v1 _ rfl rfl
    simp only [List.map_nil] at hv
    cases hv with
    | sl0 A c hm =>
     refine (Tryz.strings_Join_none A c _ w).mono ?_
     rintro e w' ⟨rfl, rfl⟩
     exact ⟨rfl, Below.refl _ _⟩
    | sl b off k c _ vals hc hm hk hlv hone hF hcell hrep =>
     refine (Tryz.strings_Join_none _ c _ w).mono ?_
     rintro e w' ⟨rfl, rfl⟩
     exact ⟨rfl, Below.refl _ _⟩
 ·exact a_Join I l sep hne hc.1 hc.2
set_option maxHeartbeats 10000000
structure A_Style where
 Color : Int
 Italic : Bool
 Underline : Bool
 deriving DecidableEq
def A_Style.d (x : A_Style) : D := .agg [.int .u8 x.Color, .bool x.Italic, .bool x.Underline]
structure A_Run where
 Text : List UInt8
 Style : A_Style
 Ruby : List UInt8
 deriving DecidableEq
def A_Run.d (x : A_Run) : D := .agg [.str x.Text, .int .u8 x.Style.Color, .bool x.Style.Italic, .bool x.Style.Underline, .str x.Ruby]
structure A_Row where
 Runs : List A_Run
 deriving DecidableEq
def A_Row.d (x : A_Row) : D := .agg [.sl (x.Runs.map A_Run.d)]
structure A_Event where
 ID : Int
 Span : A_Span
 Region : List UInt8
 Kind : Int
 Speaker : List UInt8
 Rows : List A_Row
 deriving DecidableEq
def A_Event.d (x : A_Event) : D := .agg [.int .i64 x.ID, .int .i64 x.Span.In, .int .i64 x.Span.Out, .str x.Region, .int .u8 x.Kind, .str x.Speaker, .sl (x.Rows.map A_Row.d)]
theorem dd_EJ : (∀ x, A_Style.d x = .agg [.int .u8 x.Color, .bool x.Italic, .bool x.Underline]) ∧ (∀ x, A_Run.d x = .agg [.str x.Text, .int .u8 x.Style.Color, .bool x.Style.Italic, .bool x.Style.Underline, .str x.Ruby]) ∧ (∀ x, A_Row.d x = .agg [.sl (x.Runs.map A_Run.d)]) ∧ (∀ x, A_Event.d x = .agg [.int .i64 x.ID, .int .i64 x.Span.In, .int .i64 x.Span.Out, .str x.Region, .int .u8 x.Kind, .str x.Speaker, .sl (x.Rows.map A_Row.d)]) := ⟨fun _ => rfl, fun _ => rfl, fun _ => rfl, fun _ => rfl⟩
def g_rb_sheet_total_s1 (ends_1 : List Int) (x24 : Int × Int) : Option (Nx (Int × Int) (Unit ⊕ Unit)) :=
 (if (decide (x24.2 < (ends_1.length : Int))) then ((atI ends_1 x24.2).bind fun y104 => (if (decide (y104 ≤ x24.1)) then (some (.out (.inl ()))) else (some (.go (y104, (IntKind.i64.wrap (x24.2 + 1))))))) else (some (.out (.inr ()))))
def g_rb_sheet_total_s2 (s_0 : T_rb_sheet) (ends_1 : List Int) (x125 : Int × Int × Int) : Option (Nx (Int × Int × Int) (Unit ⊕ Int)) :=
 (if (decide (x125.2.2 < (ends_1.length : Int))) then ((atI ends_1 x125.2.2).bind fun y255 => ((g_rb_sheet_fits s_0 x125.1 y255).bind fun r261 => (if r261 then ((g_rb_sheet_cost s_0 x125.1 y255).bind fun r268 => (some (.go (y255, (IntKind.i64.wrap (x125.2.1 + r268)), (IntKind.i64.wrap (x125.2.2 + 1)))))) else (some (.out (.inl ())))))) else (some (.out (.inr x125.2.1))))
def g_rb_sheet_total (s_0 : T_rb_sheet) (ends_1 : List Int) : Option (Int × Int) :=
 (((if ((ends_1.length : Int) == 0) then (some true) else ((atI ends_1 (IntKind.i64.wrap ((ends_1.length : Int) - 1))).bind fun y12 => ((g_rb_sheet_n s_0).bind fun r14 => (some (y12 != r14))))) : Option (Bool)).bind fun v9 => (if v9 then (some (0, 1)) else ((iter (g_rb_sheet_total_s1 ends_1) (0, 0)).bind fun e25 => (match e25 with | Sum.inl e25 => (some (0, 1)) | Sum.inr (e25) => (if (decide (s_0.p_.Rows < (ends_1.length : Int))) then (some (0, 9)) else ((iter (g_rb_sheet_total_s2 s_0 ends_1) (0, 0, 0)).bind fun e126 => (match e126 with | Sum.inl e126 => (some (0, 11)) | Sum.inr (e126) => (some (e126, 0)))))))))
theorem a_rb_sheet_total {I : World → Prop} (hI : Stab I) {H : Nat → Option Blk} {nid : Nat} {i0 : Nat} {p0 : Option Nat} {s_0 : T_rb_sheet} {ends_1 : List Int} {r : Int × Int} (h : g_rb_sheet_total s_0 ends_1 = some r) (b0 : H i0 = some (.box p0 [.sl (s_0.p_.Tokens.map A_Token.d), .int .i64 s_0.p_.Width, .int .i64 s_0.p_.Rows, .int .i64 s_0.p_.Table.Sg.a0, .int .i64 s_0.p_.Table.Sg.a1, .int .i64 s_0.p_.Table.Sg.a2, .int .i64 s_0.p_.Table.Sg.a3, .int .i64 s_0.p_.Table.Sg.a4, .int .i64 s_0.p_.Table.Sg.a5, .int .i64 s_0.p_.Table.Rgd, .int .i64 s_0.p_.Table.Row, .int .i64 s_0.p_.Table.Event, .int .i64 s_0.p_.Table.Fast, .int .i64 s_0.p_.Table.Gap, .int .i64 s_0.p_.Table.Shot, .sl (s_0.sums_.map (D.int .i64)), .int .i64 s_0.aim_])) : CallOK Tryz.prog I 133 [.ptr i0 0, .sl (ends_1.map (D.int .i64))] H nid (.tup [.int .i64 r.1, .int .i64 r.2]) [] := by
 refine CallOK.ro (eff := [(i0, some (.box p0 [.sl (s_0.p_.Tokens.map A_Token.d), .int .i64 s_0.p_.Width, .int .i64 s_0.p_.Rows, .int .i64 s_0.p_.Table.Sg.a0, .int .i64 s_0.p_.Table.Sg.a1, .int .i64 s_0.p_.Table.Sg.a2, .int .i64 s_0.p_.Table.Sg.a3, .int .i64 s_0.p_.Table.Sg.a4, .int .i64 s_0.p_.Table.Sg.a5, .int .i64 s_0.p_.Table.Rgd, .int .i64 s_0.p_.Table.Row, .int .i64 s_0.p_.Table.Event, .int .i64 s_0.p_.Table.Fast, .int .i64 s_0.p_.Table.Gap, .int .i64 s_0.p_.Table.Shot, .sl (s_0.sums_.map (D.int .i64)), .int .i64 s_0.aim_]))]) (CallOK.intro (is := [(i0, p0)]) (css := [[.sl (s_0.p_.Tokens.map A_Token.d), .int .i64 s_0.p_.Width, .int .i64 s_0.p_.Rows, .int .i64 s_0.p_.Table.Sg.a0, .int .i64 s_0.p_.Table.Sg.a1, .int .i64 s_0.p_.Table.Sg.a2, .int .i64 s_0.p_.Table.Sg.a3, .int .i64 s_0.p_.Table.Sg.a4, .int .i64 s_0.p_.Table.Sg.a5, .int .i64 s_0.p_.Table.Rgd, .int .i64 s_0.p_.Table.Row, .int .i64 s_0.p_.Table.Event, .int .i64 s_0.p_.Table.Fast, .int .i64 s_0.p_.Table.Gap, .int .i64 s_0.p_.Table.Shot, .sl (s_0.sums_.map (D.int .i64)), .int .i64 s_0.aim_]]) (ds0 := [.ptr 0 0, .sl (ends_1.map (D.int .i64))]) (pl := [(0, none)]) hI Tryz.func133 rfl (by decide) (by simp [Tryz.f133]) (by kernel_rfl) rfl rfl rfl rfl (lentAll_of ⟨⟨b0, rfl⟩, trivial⟩) (by simp) ?_) (ro1 b0)
 have dd := And.intro dd_EJ <| And.intro dd_EB <| And.intro dd_EA <| And.intro dd_EC dd_ED; have k := True.intro; have q := k; have rs := Tryz.results133
 unfold g_rb_sheet_total at h
 simp only [lentH, List.length_cons, List.length_nil, Nat.zero_add, Nat.reduceAdd, Tryz.ntmps133, dd_EJ, dd_EB, dd_EA, dd_EC, dd_ED]
 refine xs <| rz ?_
 refine es <| xs ?_
 obtain ⟨v9, h16, h⟩ := bs h
 refine rb_cut (fun v9 => ⟨envL [(0, .ptr 0 0), (1, .sl (ends_1.map (D.int .i64))), (25, .bool v9)], heapL [(0, .box (some 0) [.sl (s_0.p_.Tokens.map A_Token.d), .int .i64 s_0.p_.Width, .int .i64 s_0.p_.Rows, .int .i64 s_0.p_.Table.Sg.a0, .int .i64 s_0.p_.Table.Sg.a1, .int .i64 s_0.p_.Table.Sg.a2, .int .i64 s_0.p_.Table.Sg.a3, .int .i64 s_0.p_.Table.Sg.a4, .int .i64 s_0.p_.Table.Sg.a5, .int .i64 s_0.p_.Table.Rgd, .int .i64 s_0.p_.Table.Row, .int .i64 s_0.p_.Table.Event, .int .i64 s_0.p_.Table.Fast, .int .i64 s_0.p_.Table.Gap, .int .i64 s_0.p_.Table.Shot, .sl (s_0.sums_.map (D.int .i64)), .int .i64 s_0.aim_])], 1, 65⟩) h16 ?_ ?_
 ·clear h
  intro v9 h
  refine rD hI fun K10 RK10 hK10 gK10 => zz ?_
  obtain ⟨k,h⟩|⟨k,h⟩:=iK k h
  ·refine zz ?_
   subst hK10 gK10
   cases h
   exact en ⟨rfl, wk []⟩
  ·refine zz ?_
   obtain ⟨y12, q, h⟩ := bK q h
   refine zz ?_
   obtain ⟨r14, h15, h⟩ := bs h
   refine eD.intro (fun H' ho hs => a_rb_sheet_n hI (H := H') (nid := 14) (i0 := 0) (p0 := (some 0)) h15 (ho 0 _ (by dsimp only; decide) fz)) fi rfl fk <| zz ?_
   subst hK10 gK10
   cases h
   exact en ⟨rfl, wk []⟩
 ·obtain ⟨k,h⟩|⟨k,h⟩:=iK k h
  ·refine xt <| xs <| rz ?_
   refine es <| xr <| er ?_
   cases h
   exact en fp
  ·refine xf <| xk <| es <| xs <| rz ?_
   refine es <| xs <| xs <| rz ?_
   refine es <| xb ?_
   obtain ⟨e25, h113, h⟩ := bs h
   refine rb_loop (fun x24 => ⟨envL [(0, .ptr 0 0), (1, .sl (ends_1.map (D.int .i64))), (6, .int .i64 x24.1), (26, .sl (ends_1.map (D.int .i64))), (27, .int .i64 (ends_1.length : Int)), (28, .int .i64 x24.2)], heapL [(0, .box (some 0) [.sl (s_0.p_.Tokens.map A_Token.d), .int .i64 s_0.p_.Width, .int .i64 s_0.p_.Rows, .int .i64 s_0.p_.Table.Sg.a0, .int .i64 s_0.p_.Table.Sg.a1, .int .i64 s_0.p_.Table.Sg.a2, .int .i64 s_0.p_.Table.Sg.a3, .int .i64 s_0.p_.Table.Sg.a4, .int .i64 s_0.p_.Table.Sg.a5, .int .i64 s_0.p_.Table.Rgd, .int .i64 s_0.p_.Table.Row, .int .i64 s_0.p_.Table.Event, .int .i64 s_0.p_.Table.Fast, .int .i64 s_0.p_.Table.Gap, .int .i64 s_0.p_.Table.Shot, .sl (s_0.sums_.map (D.int .i64)), .int .i64 s_0.aim_])], 1, 65⟩) (fun w => match w with | Sum.inl _ => .ret | Sum.inr (_) => .exit 0) (fun w => match w with | Sum.inl e25 => ⟨envL [(0, .ptr 0 0), (4, .int .i64 0), (5, .int .i64 1)], heapL [(0, .box (some 0) [.sl (s_0.p_.Tokens.map A_Token.d), .int .i64 s_0.p_.Width, .int .i64 s_0.p_.Rows, .int .i64 s_0.p_.Table.Sg.a0, .int .i64 s_0.p_.Table.Sg.a1, .int .i64 s_0.p_.Table.Sg.a2, .int .i64 s_0.p_.Table.Sg.a3, .int .i64 s_0.p_.Table.Sg.a4, .int .i64 s_0.p_.Table.Sg.a5, .int .i64 s_0.p_.Table.Rgd, .int .i64 s_0.p_.Table.Row, .int .i64 s_0.p_.Table.Event, .int .i64 s_0.p_.Table.Fast, .int .i64 s_0.p_.Table.Gap, .int .i64 s_0.p_.Table.Shot, .sl (s_0.sums_.map (D.int .i64)), .int .i64 s_0.aim_])], 1, 65⟩ | Sum.inr (e25) => ⟨envL [(0, .ptr 0 0), (1, .sl (ends_1.map (D.int .i64)))], heapL [(0, .box (some 0) [.sl (s_0.p_.Tokens.map A_Token.d), .int .i64 s_0.p_.Width, .int .i64 s_0.p_.Rows, .int .i64 s_0.p_.Table.Sg.a0, .int .i64 s_0.p_.Table.Sg.a1, .int .i64 s_0.p_.Table.Sg.a2, .int .i64 s_0.p_.Table.Sg.a3, .int .i64 s_0.p_.Table.Sg.a4, .int .i64 s_0.p_.Table.Sg.a5, .int .i64 s_0.p_.Table.Rgd, .int .i64 s_0.p_.Table.Row, .int .i64 s_0.p_.Table.Event, .int .i64 s_0.p_.Table.Fast, .int .i64 s_0.p_.Table.Gap, .int .i64 s_0.p_.Table.Shot, .sl (s_0.sums_.map (D.int .i64)), .int .i64 s_0.aim_])], 1, 65⟩) h113 (wk []) (by intro w; rcases w with w | w <;> simp) ?_ ?_
   ·clear h
    intro x24 y h
    unfold g_rb_sheet_total_s1 at h
    refine xs <| rz ?_
    refine es <| xs ?_
    obtain ⟨k,h⟩|⟨k,h⟩:=iK k h
    ·refine xt <| xk <| es <| xs <| xb <| xs <| rK fun K103 RK103 hK103 gK103 => zz ?_
     obtain ⟨y104, q, h⟩ := bK q h
     refine zz ?_
     subst hK103 gK103
     refine es <| xs <| xs <| rz ?_
     refine es ?_
     obtain ⟨k,h⟩|⟨k,h⟩:=iK k h
     ·refine xt <| xs <| rz ?_
      refine es <| xr <| er <| br <| er ?_
      cases h
      exact en ⟨rfl, wk []⟩
     ·refine xf <| xk <| es <| rz ?_
      refine bn <| es <| rz ?_
      cases h
      exact en ⟨rfl, wk []⟩
    ·refine xf <| xx <| ee ?_
     cases h
     exact en ⟨rfl, wk []⟩
   ·rcases e25 with e25 | e25
    ·try dsimp only at h ⊢
     refine br <| er ?_
     cases h
     exact en fp
    ·try dsimp only at h ⊢
     refine bh <| es <| xs <| xs <| rz ?_
     refine es ?_
     obtain ⟨k,h⟩|⟨k,h⟩:=iK k h
     ·refine xt <| xs <| rz ?_
      refine es <| xr <| er ?_
      cases h
      exact en fp
     ·refine xf <| xk <| es <| xs <| rz ?_
      refine es <| xs <| rz ?_
      refine es <| xs <| xs <| rz ?_
      refine es <| xb ?_
      obtain ⟨e126, h274, h⟩ := bs h
      refine rb_loop (fun x125 => ⟨envL [(0, .ptr 0 0), (6, .int .i64 x125.1), (9, .int .i64 x125.2.1), (45, .sl (ends_1.map (D.int .i64))), (46, .int .i64 (ends_1.length : Int)), (47, .int .i64 x125.2.2)], heapL [(0, .box (some 0) [.sl (s_0.p_.Tokens.map A_Token.d), .int .i64 s_0.p_.Width, .int .i64 s_0.p_.Rows, .int .i64 s_0.p_.Table.Sg.a0, .int .i64 s_0.p_.Table.Sg.a1, .int .i64 s_0.p_.Table.Sg.a2, .int .i64 s_0.p_.Table.Sg.a3, .int .i64 s_0.p_.Table.Sg.a4, .int .i64 s_0.p_.Table.Sg.a5, .int .i64 s_0.p_.Table.Rgd, .int .i64 s_0.p_.Table.Row, .int .i64 s_0.p_.Table.Event, .int .i64 s_0.p_.Table.Fast, .int .i64 s_0.p_.Table.Gap, .int .i64 s_0.p_.Table.Shot, .sl (s_0.sums_.map (D.int .i64)), .int .i64 s_0.aim_])], 1, 65⟩) (fun w => match w with | Sum.inl _ => .ret | Sum.inr (_) => .exit 2) (fun w => match w with | Sum.inl e126 => ⟨envL [(0, .ptr 0 0), (4, .int .i64 0), (5, .int .i64 11)], heapL [(0, .box (some 0) [.sl (s_0.p_.Tokens.map A_Token.d), .int .i64 s_0.p_.Width, .int .i64 s_0.p_.Rows, .int .i64 s_0.p_.Table.Sg.a0, .int .i64 s_0.p_.Table.Sg.a1, .int .i64 s_0.p_.Table.Sg.a2, .int .i64 s_0.p_.Table.Sg.a3, .int .i64 s_0.p_.Table.Sg.a4, .int .i64 s_0.p_.Table.Sg.a5, .int .i64 s_0.p_.Table.Rgd, .int .i64 s_0.p_.Table.Row, .int .i64 s_0.p_.Table.Event, .int .i64 s_0.p_.Table.Fast, .int .i64 s_0.p_.Table.Gap, .int .i64 s_0.p_.Table.Shot, .sl (s_0.sums_.map (D.int .i64)), .int .i64 s_0.aim_])], 1, 65⟩ | Sum.inr (e126) => ⟨envL [(0, .ptr 0 0), (9, .int .i64 e126)], heapL [(0, .box (some 0) [.sl (s_0.p_.Tokens.map A_Token.d), .int .i64 s_0.p_.Width, .int .i64 s_0.p_.Rows, .int .i64 s_0.p_.Table.Sg.a0, .int .i64 s_0.p_.Table.Sg.a1, .int .i64 s_0.p_.Table.Sg.a2, .int .i64 s_0.p_.Table.Sg.a3, .int .i64 s_0.p_.Table.Sg.a4, .int .i64 s_0.p_.Table.Sg.a5, .int .i64 s_0.p_.Table.Rgd, .int .i64 s_0.p_.Table.Row, .int .i64 s_0.p_.Table.Event, .int .i64 s_0.p_.Table.Fast, .int .i64 s_0.p_.Table.Gap, .int .i64 s_0.p_.Table.Shot, .sl (s_0.sums_.map (D.int .i64)), .int .i64 s_0.aim_])], 1, 65⟩) h274 (wk []) (by intro w; rcases w with w | w <;> simp) ?_ ?_
      ·clear h
       intro x125 y h
       unfold g_rb_sheet_total_s2 at h
       refine xs <| rz ?_
       refine es <| xs ?_
       obtain ⟨k,h⟩|⟨k,h⟩:=iK k h
       ·refine xt <| xk <| es <| xs <| xb <| xs <| rK fun K254 RK254 hK254 gK254 => zz ?_
        obtain ⟨y255, q, h⟩ := bK q h
        refine zz ?_
        subst hK254 gK254
        refine es <| xs <| xs <| rK fun K260 RK260 hK260 gK260 => zz ?_
        obtain ⟨r261, h262, h⟩ := bs h
        refine eW.intro (a_rb_sheet_fits hI (nid := 8) (i0 := 0) (p0 := (some 0)) h262 fz) fi rfl <| zz ?_
        subst hK260 gK260
        refine es ?_
        obtain ⟨k,h⟩|⟨k,h⟩:=iK k h
        ·refine xf <| xk <| es <| xs <| rK fun K267 RK267 hK267 gK267 => zz ?_
         obtain ⟨r268, h269, h⟩ := bs h
         refine eW.intro (a_rb_sheet_cost hI (nid := 14) (i0 := 0) (p0 := (some 0)) h269 fz) fi rfl <| zz ?_
         subst hK267 gK267
         refine es <| rz ?_
         refine bn <| es <| rz ?_
         cases h
         exact en ⟨rfl, wk []⟩
        ·refine xt <| xs <| rz ?_
         refine es <| xr <| er <| br <| er ?_
         cases h
         exact en ⟨rfl, wk []⟩
       ·refine xf <| xx <| ee ?_
        cases h
        exact en ⟨rfl, wk []⟩
      ·rcases e126 with e126 | e126
       ·try dsimp only at h ⊢
        refine br <| er ?_
        cases h
        exact en fp
       ·try dsimp only at h ⊢
        refine bh <| es <| xs <| rz ?_
        refine es <| xr ?_
        cases h
        exact en fp
def g_rb_Cost (p_0 : A_Pg) (ends_1 : List Int) : Option (Int × Int) :=
 ((g_rb_Check p_0).bind fun r7 => (if (r7 != 0) then (some (0, r7)) else ((g_rb_open p_0).bind fun r20 => ((g_rb_sheet_total r20 ends_1).bind fun r22 => (some (r22.1, r22.2))))))
theorem a_rb_Cost {I : World → Prop} (hI : Stab I) (hU8T : ∀ w, I w → U8T w) {p_0 : A_Pg} {ends_1 : List Int} {r : Int × Int} (h : g_rb_Cost p_0 ends_1 = some r) : AFun Tryz.prog I 92 [A_Pg.d p_0, .sl (ends_1.map (D.int .i64))] (.tup [.int .i64 r.1, .int .i64 r.2]) := by
 have dd := And.intro dd_EJ <| And.intro dd_EB <| And.intro dd_EA <| And.intro dd_EC dd_ED; have k := True.intro; have q := k; have rs := Tryz.results92
 unfold g_rb_Cost at h
 refine .en hI Tryz.func92 Tryz.ntmps92 ?_
 refine xs <| rz ?_
 refine es <| xs <| xs <| rK fun K6 RK6 hK6 gK6 => zz ?_
 obtain ⟨r7, h8, h⟩ := bs h
 refine cw (a_rb_Check hI hU8T h8) <| zz ?_
 subst hK6 gK6
 refine es <| xs <| rz ?_
 refine es ?_
 obtain ⟨k,h⟩|⟨k,h⟩:=iK k h
 ·refine xt <| xs <| rz ?_
  refine es <| xr <| er ?_
  cases h
  exact en fr
 ·refine xf <| xk <| es <| xs <| rK fun K19 RK19 hK19 gK19 => zz ?_
  obtain ⟨r20, h21, h⟩ := bs h
  refine cW.introE (a_rb_open hI hU8T (nid := 9) h21) fz rfl <| zz ?_
  obtain ⟨r22, h23, h⟩ := bs h
  refine eW.intro (a_rb_sheet_total hI (nid := 11) (i0 := 9) (p0 := none) h23 fz) fi rfl <| zz ?_
  subst hK19 gK19
  refine es <| xr ?_
  cases h
  exact en fr
def g_token_Join_s1 (l_0 : List A_Token) (x21 : Int × (List (List UInt8))) : Option (Nx (Int × (List (List UInt8))) ((List (List UInt8)))) :=
 (if (decide (x21.1 < (l_0.length : Int))) then ((atI l_0 x21.1).bind fun y78 => ((atI x21.2 x21.1).bind fun y81 => ((setI x21.2 x21.1 y78.Text).bind fun m82 => (some (.go ((IntKind.i64.wrap (x21.1 + 1)), m82)))))) else (some (.out x21.2)))
def g_token_Join (l_0 : List A_Token) : Option ((List UInt8)) :=
 ((mkI 16 (l_0.length : Int) ([] : List UInt8)).bind fun m12 => ((iter (g_token_Join_s1 l_0) (0, m12)).bind fun e22 => ((g_strings_Join e22 [32]).bind fun r94 => (some r94))))
theorem a_token_Join {I : World → Prop} (hI : Stab I) {l_0 : List A_Token} {r : (List UInt8)} (h : g_token_Join l_0 = some r) : AFun Tryz.prog I 93 [.sl (l_0.map A_Token.d)] (.str r) := by
 have dd := And.intro dd_EJ <| And.intro dd_EB <| And.intro dd_EA <| And.intro dd_EC dd_ED; have k := True.intro; have q := k; have rs := Tryz.results93
 unfold g_token_Join at h
 refine .en hI Tryz.func93 Tryz.ntmps93 ?_
 refine xs <| rz ?_
 refine es <| xs <| rK fun K11 RK11 hK11 gK11 => zz ?_
 obtain ⟨m12, h13, h⟩ := bind_some h
 obtain ⟨h14, h15, h16, h17, h18⟩ := mkI_some h13
 have h18 := h18 D.str
 have h17 := (Int.toNat_natCast _).symm.trans h17 |>.symm
 rw [h17] at h18
 have k := And.intro h17 k
 try simp only [sevalprocAttr, List.map_nil, Int.toNat_natCast, dd] at h18
 have q := And.intro @h14 <| And.intro @h15 <| And.intro @h16 <| And.intro @h17 <| And.intro @h18 <| q
 refine zz ?_
 subst hK11 gK11
 refine es <| xs <| xs <| rz ?_
 refine es <| xb ?_
 obtain ⟨e22, h89, h⟩ := bs h
 refine rb_loop (fun x21 => ⟨envL [(3, .own 0 x21.2.length), (9, .sl (l_0.map A_Token.d)), (10, .int .i64 (l_0.length : Int)), (11, .int .i64 x21.1)], heapL [(0, .vec 9 1 (x21.2.map D.str) false)], 1, 24⟩) (fun _ => .exit 0) (fun e22 => ⟨envL [(3, .own 0 e22.length)], heapL [(0, .vec 9 1 (e22.map D.str) false)], 1, 24⟩) h89 (wk [(0, some 3)]) (by intro w; simp) ?_ ?_
 ·clear h
  intro x21 y h
  unfold g_token_Join_s1 at h
  refine xs <| rz ?_
  refine es <| xs ?_
  obtain ⟨k,h⟩|⟨k,h⟩:=iK k h
  ·refine xt <| xk <| es <| xs <| xb <| xs <| rK fun K77 RK77 hK77 gK77 => zz ?_
   obtain ⟨y78, q, h⟩ := bK q h
   refine zz ?_
   subst hK77 gK77
   refine es <| rK fun K80 RK80 hK80 gK80 => zz ?_
   obtain ⟨y81, q, h⟩ := oN q h
   refine zz ?_
   obtain ⟨m82, h83, h⟩ := bind_some h
   obtain ⟨h84, h85, h86, h87⟩ := setI_some h83
   have h87 := h87 D.str
   try simp only [sevalprocAttr, List.map_nil, dd] at h87
   have q := And.intro @h84 <| And.intro @h85 <| And.intro @h86 <| And.intro @h87 <| q
   refine zz ?_
   subst hK80 gK80
   refine bn <| es <| rz ?_
   cases h
   exact en ⟨rfl, wk []⟩
  ·refine xf <| xx <| ee ?_
   cases h
   exact en ⟨rfl, wk []⟩
 ·refine bh <| es <| xs <| rK fun K93 RK93 hK93 gK93 => zz ?_
  obtain ⟨r94, h95, h⟩ := bs h
  refine cw (a_strings_Join I hI e22 [32] h95) <| zz ?_
  subst hK93 gK93
  refine es <| xr ?_
  cases h
  exact en fr
def g_rb_Rows_s1 (p_0 : A_Pg) (ends_1 : List Int) (x20 : (List (List UInt8)) × Int × Int) : Option (Nx ((List (List UInt8)) × Int × Int) ((List (List UInt8)))) :=
 (if (decide (x20.2.2 < (ends_1.length : Int))) then ((atI ends_1 x20.2.2).bind fun y254 => ((subI p_0.Tokens x20.2.1 y254).bind fun z269 => ((g_token_Join z269).bind fun r276 => (if (x20.1.length + 1) * 16 ≤ 140737488355328 then (some (.go ((x20.1 ++ [r276]), y254, (IntKind.i64.wrap (x20.2.2 + 1))))) else none)))) else (some (.out x20.1)))
def g_rb_Rows (p_0 : A_Pg) (ends_1 : List Int) : Option ((List (List UInt8)) × Int) :=
 ((g_rb_Cost p_0 ends_1).bind fun r7 => (if (r7.2 != 0) then (some ([], r7.2)) else ((iter (g_rb_Rows_s1 p_0 ends_1) ([], 0, 0)).bind fun e21 => (some (e21, 0)))))
theorem a_rb_Rows {I : World → Prop} (hI : Stab I) (hU8T : ∀ w, I w → U8T w) {p_0 : A_Pg} {ends_1 : List Int} {r : (List (List UInt8)) × Int} (h : g_rb_Rows p_0 ends_1 = some r) : AFun Tryz.prog I 51 [A_Pg.d p_0, .sl (ends_1.map (D.int .i64))] (.tup [.sl (r.1.map D.str), .int .i64 r.2]) := by
 have dd := And.intro dd_EJ <| And.intro dd_EB <| And.intro dd_EA <| And.intro dd_EC dd_ED; have k := True.intro; have q := k; have rs := Tryz.results51
 unfold g_rb_Rows at h
 refine .en hI Tryz.func51 Tryz.ntmps51 ?_
 refine xs <| rz ?_
 refine es <| xs <| xs <| rK fun K6 RK6 hK6 gK6 => zz ?_
 obtain ⟨r7, h8, h⟩ := bs h
 refine cw (a_rb_Cost hI hU8T h8) <| zz ?_
 subst hK6 gK6
 refine es <| xs <| rz ?_
 refine es ?_
 obtain ⟨k,h⟩|⟨k,h⟩:=iK k h
 ·refine xt <| xs <| rz ?_
  refine es <| xr <| er ?_
  cases h
  exact en fr
 ·refine xf <| xk <| es <| xs <| rz ?_
  refine es <| xs <| rz ?_
  refine es <| xs <| xs <| rz ?_
  refine es <| xb ?_
  obtain ⟨e21, h282, h⟩ := bs h
  refine rb_loop (fun x20 => ⟨envL [(2, .ptr 0 0), (8, .own 1 x20.1.length), (9, .int .i64 x20.2.1), (21, .sl (ends_1.map (D.int .i64))), (22, .int .i64 (ends_1.length : Int)), (23, .int .i64 x20.2.2)], heapL [(0, .box none [.sl (p_0.Tokens.map A_Token.d), .int .i64 p_0.Width, .int .i64 p_0.Rows, .int .i64 p_0.Table.Sg.a0, .int .i64 p_0.Table.Sg.a1, .int .i64 p_0.Table.Sg.a2, .int .i64 p_0.Table.Sg.a3, .int .i64 p_0.Table.Sg.a4, .int .i64 p_0.Table.Sg.a5, .int .i64 p_0.Table.Rgd, .int .i64 p_0.Table.Row, .int .i64 p_0.Table.Event, .int .i64 p_0.Table.Fast, .int .i64 p_0.Table.Gap, .int .i64 p_0.Table.Shot]), (1, .vec 9 1 (x20.1.map D.str) false)], 2, 39⟩) (fun _ => .exit 0) (fun e21 => ⟨envL [(8, .own 0 e21.length)], heapL [(0, .vec 9 1 (e21.map D.str) false)], 1, 39⟩) h282 (wk [(1, none)]) (by intro w; simp) ?_ ?_
  ·clear h
   intro x20 y h
   unfold g_rb_Rows_s1 at h
   refine xs <| rz ?_
   refine es <| xs ?_
   obtain ⟨k,h⟩|⟨k,h⟩:=iK k h
   ·refine xt <| xk <| es <| xs <| xb <| xs <| rK fun K253 RK253 hK253 gK253 => zz ?_
    obtain ⟨y254, q, h⟩ := bK q h
    refine zz ?_
    subst hK253 gK253
    refine es <| xs <| rK fun K268 RK268 hK268 gK268 => zz ?_
    obtain ⟨z269, h270, h⟩ := bind_some h
    obtain ⟨⟨h271, h272, h273, h274⟩, h275⟩ := subI_some h270
    have q := And.intro @h271 <| And.intro @h272 <| And.intro @h273 <| And.intro @h274 <| q
    try simp -implicitDefEqProofs only [vt, vm, sevalprocAttr, dd, k, q] at h275
    have q := And.intro @h275 <| q
    refine zz ?_
    obtain ⟨r276, h277, h⟩ := bs h
    refine cw (a_token_Join hI h277) <| zz ?_
    obtain ⟨h278, h⟩ := ite_on h
    have h279 : x20.1.length + 1 ≤ 9223372036854775807 := by omega
    try simp only [Nat.reduceLeDiff] at h279
    have q := And.intro @h279 <| And.intro @h278 <| q
    refine zz ?_
    subst hK268 gK268
    refine es <| rz ?_
    refine bn <| es <| rz ?_
    cases h
    exact en ⟨rfl, wk [(1, some 14)]⟩
   ·refine xf <| xx <| ee ?_
    cases h
    exact en ⟨rfl, wk [(0, some 1)]⟩
  ·refine bh <| es <| xs <| rz ?_
   refine es <| xr ?_
   cases h
   exact en fr
def g_sg_Events_s2 (r978 : (List (List UInt8)) × Int) (x982 : Int × (List A_Row)) : Option (Nx (Int × (List A_Row)) ((List A_Row))) :=
 (if (decide (x982.1 < (r978.1.length : Int))) then ((atI r978.1 x982.1).bind fun y1066 => (if (x982.2.length + 1) * 24 ≤ 140737488355328 then (some (.go ((IntKind.i64.wrap (x982.1 + 1)), (x982.2 ++ [(A_Row.mk [(A_Run.mk y1066 (A_Style.mk 0 false false) [])])])))) else none)) else (some (.out x982.2)))
def g_sg_Events_s1 (s_0 : A_Sh) (r18 : (List A_Part) × Int × Int) (r29 : (List A_Token)) (x35 : (List A_Event) × Int) : Option (Nx ((List A_Event) × Int) ((List A_Event))) :=
 (if (decide (x35.2 < (r18.1.length : Int))) then ((atI r18.1 x35.2).bind fun y952 => ((subI r29 y952.From y952.To).bind fun z969 => ((g_sg_paragraph s_0 z969).bind fun r976 => ((g_rb_Rows r976 y952.Breaks).bind fun r978 => ((iter (g_sg_Events_s2 r978) (0, [])).bind fun e983 => (if (x35.1.length + 1) * 88 ≤ 140737488355328 then (some (.go ((x35.1 ++ [(A_Event.mk (IntKind.i64.wrap (x35.2 + 1)) y952.Span [] 1 [] e983)]), (IntKind.i64.wrap (x35.2 + 1))))) else none)))))) else (some (.out x35.1)))
def g_sg_Events (s_0 : A_Sh) (l_1 : List A_Part) : Option ((List A_Event) × Int) :=
 ((g_sg_Check s_0).bind fun r7 => (if (r7 != 0) then (some ([], r7)) else ((g_sg_cost s_0 l_1).bind fun r18 => (if (r18.2.2 != 0) then (some ([], r18.2.2)) else ((g_sg_tokens s_0).bind fun r29 => ((iter (g_sg_Events_s1 s_0 r18 r29) ([], 0)).bind fun e36 => (some (e36, 0))))))))
theorem a_sg_Events {I : World → Prop} (hI : Stab I) (hShp : ∀ w, I w → Shp w) (hU8T : ∀ w, I w → U8T w) {s_0 : A_Sh} {l_1 : List A_Part} {r : (List A_Event) × Int} (h : g_sg_Events s_0 l_1 = some r) : AFun Tryz.prog I 21 [A_Sh.d s_0, .sl (l_1.map A_Part.d)] (.tup [.sl (r.1.map A_Event.d), .int .i64 r.2]) := by
 have dd := And.intro dd_EJ <| And.intro dd_EB <| And.intro dd_EA <| And.intro dd_EC dd_ED; have k := True.intro; have q := k; have rs := Tryz.results21
 unfold g_sg_Events at h
 refine .en hI Tryz.func21 Tryz.ntmps21 ?_
 refine xs <| rz ?_
 refine es <| xs <| xs <| rK fun K6 RK6 hK6 gK6 => zz ?_
 obtain ⟨r7, h8, h⟩ := bs h
 refine cw (a_sg_Check hI hU8T h8) <| zz ?_
 subst hK6 gK6
 refine es <| xs <| rz ?_
 refine es ?_
 obtain ⟨k,h⟩|⟨k,h⟩:=iK k h
 ·refine xt <| xs <| rz ?_
  refine es <| xr <| er ?_
  cases h
  exact en fr
 ·refine xf <| xk <| es <| xs <| rK fun K17 RK17 hK17 gK17 => zz ?_
  obtain ⟨r18, h19, h⟩ := bs h
  refine cw (a_sg_cost hI hShp hU8T h19) <| zz ?_
  subst hK17 gK17
  refine es <| xs <| xs <| rz ?_
  refine es ?_
  obtain ⟨k,h⟩|⟨k,h⟩:=iK k h
  ·refine xt <| xs <| rz ?_
   refine es <| xr <| er ?_
   cases h
   exact en fr
  ·refine xf <| xk <| es <| xs <| rK fun K28 RK28 hK28 gK28 => zz ?_
   obtain ⟨r29, h30, h⟩ := bs h
   refine cw (a_sg_tokens hI hShp h30) <| zz ?_
   subst hK28 gK28
   refine es <| xs <| rz ?_
   refine es <| xs <| xs <| rz ?_
   refine es <| xb ?_
   obtain ⟨e36, h1077, h⟩ := bs h
   refine rb_loop (fun x35 => ⟨envL [(2, .ptr 0 0), (10, .sl (r29.map A_Token.d)), (11, .own 1 x35.1.length), (36, .sl (r18.1.map A_Part.d)), (37, .int .i64 (r18.1.length : Int)), (38, .int .i64 x35.2)], heapL [(0, .box none [.int .u8 s_0.Rate, .sl (s_0.Words.map A_Word.d), .sl (s_0.Shots.map (D.int .i64)), .int .i64 s_0.Table.Sg.a0, .int .i64 s_0.Table.Sg.a1, .int .i64 s_0.Table.Sg.a2, .int .i64 s_0.Table.Sg.a3, .int .i64 s_0.Table.Sg.a4, .int .i64 s_0.Table.Sg.a5, .int .i64 s_0.Table.Rgd, .int .i64 s_0.Table.Row, .int .i64 s_0.Table.Event, .int .i64 s_0.Table.Fast, .int .i64 s_0.Table.Gap, .int .i64 s_0.Table.Shot, .str s_0.House.Name, .int .i64 s_0.House.Reading, .int .i64 s_0.House.MnF, .int .i64 s_0.House.MxF, .int .i64 s_0.House.MnG, .int .i64 s_0.House.ShB, .int .i64 s_0.House.ShA, .int .i64 s_0.House.Rows, .int .i64 s_0.House.Cols, .str s_0.House.Fbd, .int .i64 s_0.House.SfT, .int .i64 s_0.House.SfB, .int .i64 s_0.House.SfL, .int .i64 s_0.House.SfR]), (1, .vec 61 7 (x35.1.map A_Event.d) false)], 2, 84⟩) (fun _ => .exit 0) (fun e36 => ⟨envL [(11, .own 0 e36.length)], heapL [(0, .vec 61 7 (e36.map A_Event.d) false)], 1, 84⟩) h1077 (wk [(1, none)]) (by intro w; simp) ?_ ?_
   ·clear h
    intro x35 y h
    unfold g_sg_Events_s1 at h
    refine xs <| rz ?_
    refine es <| xs ?_
    obtain ⟨k,h⟩|⟨k,h⟩:=iK k h
    ·refine xt <| xk <| es <| xs <| xb <| xs <| rK fun K951 RK951 hK951 gK951 => zz ?_
     obtain ⟨y952, q, h⟩ := bK q h
     refine zz ?_
     subst hK951 gK951
     refine es <| xs <| rz ?_
     refine es <| xs <| rD hI fun K968 RK968 hK968 gK968 => zz ?_
     obtain ⟨z969, h970, h⟩ := bind_some h
     obtain ⟨⟨h971, h972, h973, h974⟩, h975⟩ := subI_some h970
     have q := And.intro @h971 <| And.intro @h972 <| And.intro @h973 <| And.intro @h974 <| q
     try simp -implicitDefEqProofs only [vt, vm, sevalprocAttr, dd, k, q] at h975
     have q := And.intro @h975 <| q
     refine zz ?_
     obtain ⟨r976, h977, h⟩ := bs h
     refine cd (a_sg_paragraph hI h977) <| zz ?_
     obtain ⟨r978, h979, h⟩ := bs h
     refine cd (a_rb_Rows hI hU8T h979) <| zz ?_
     subst hK968 gK968
     refine es <| xs <| xs <| rz ?_
     refine es <| xb ?_
     obtain ⟨e983, h1072, h⟩ := bs h
     refine rb_loop (fun x982 => ⟨envL [(2, .ptr 0 0), (10, .sl (r29.map A_Token.d)), (11, .own 1 x35.1.length), (14, .ptr 2 0), (36, .sl (r18.1.map A_Part.d)), (37, .int .i64 (r18.1.length : Int)), (38, .int .i64 x35.2), (62, .sl (r978.1.map D.str)), (63, .int .i64 (r978.1.length : Int)), (64, .int .i64 x982.1)], heapL [(0, .box none [.int .u8 s_0.Rate, .sl (s_0.Words.map A_Word.d), .sl (s_0.Shots.map (D.int .i64)), .int .i64 s_0.Table.Sg.a0, .int .i64 s_0.Table.Sg.a1, .int .i64 s_0.Table.Sg.a2, .int .i64 s_0.Table.Sg.a3, .int .i64 s_0.Table.Sg.a4, .int .i64 s_0.Table.Sg.a5, .int .i64 s_0.Table.Rgd, .int .i64 s_0.Table.Row, .int .i64 s_0.Table.Event, .int .i64 s_0.Table.Fast, .int .i64 s_0.Table.Gap, .int .i64 s_0.Table.Shot, .str s_0.House.Name, .int .i64 s_0.House.Reading, .int .i64 s_0.House.MnF, .int .i64 s_0.House.MxF, .int .i64 s_0.House.MnG, .int .i64 s_0.House.ShB, .int .i64 s_0.House.ShA, .int .i64 s_0.House.Rows, .int .i64 s_0.House.Cols, .str s_0.House.Fbd, .int .i64 s_0.House.SfT, .int .i64 s_0.House.SfB, .int .i64 s_0.House.SfL, .int .i64 s_0.House.SfR]), (1, .vec 61 7 (x35.1.map A_Event.d) false), (2, .box none [.int .i64 (IntKind.i64.wrap (x35.2 + 1)), .int .i64 y952.Span.In, .int .i64 y952.Span.Out, .str [], .int .u8 1, .str [], .own 3 x982.2.length]), (3, .vec 68 1 (x982.2.map A_Row.d) false)], 4, 84⟩) (fun _ => .exit 2) (fun e983 => ⟨envL [(2, .ptr 0 0), (10, .sl (r29.map A_Token.d)), (11, .own 1 x35.1.length), (14, .ptr 2 0), (36, .sl (r18.1.map A_Part.d)), (37, .int .i64 (r18.1.length : Int)), (38, .int .i64 x35.2)], heapL [(0, .box none [.int .u8 s_0.Rate, .sl (s_0.Words.map A_Word.d), .sl (s_0.Shots.map (D.int .i64)), .int .i64 s_0.Table.Sg.a0, .int .i64 s_0.Table.Sg.a1, .int .i64 s_0.Table.Sg.a2, .int .i64 s_0.Table.Sg.a3, .int .i64 s_0.Table.Sg.a4, .int .i64 s_0.Table.Sg.a5, .int .i64 s_0.Table.Rgd, .int .i64 s_0.Table.Row, .int .i64 s_0.Table.Event, .int .i64 s_0.Table.Fast, .int .i64 s_0.Table.Gap, .int .i64 s_0.Table.Shot, .str s_0.House.Name, .int .i64 s_0.House.Reading, .int .i64 s_0.House.MnF, .int .i64 s_0.House.MxF, .int .i64 s_0.House.MnG, .int .i64 s_0.House.ShB, .int .i64 s_0.House.ShA, .int .i64 s_0.House.Rows, .int .i64 s_0.House.Cols, .str s_0.House.Fbd, .int .i64 s_0.House.SfT, .int .i64 s_0.House.SfB, .int .i64 s_0.House.SfL, .int .i64 s_0.House.SfR]), (1, .vec 61 7 (x35.1.map A_Event.d) false), (2, .box none [.int .i64 (IntKind.i64.wrap (x35.2 + 1)), .int .i64 y952.Span.In, .int .i64 y952.Span.Out, .str [], .int .u8 1, .str [], .own 3 e983.length]), (3, .vec 68 1 (e983.map A_Row.d) false)], 4, 84⟩) h1072 (wk [(2, some 14), (3, none)]) (by intro w; simp) ?_ ?_
     ·clear h
      intro x982 y h
      unfold g_sg_Events_s2 at h
      refine xs <| rz ?_
      refine es <| xs ?_
      obtain ⟨k,h⟩|⟨k,h⟩:=iK k h
      ·refine xt <| xk <| es <| xs <| xb <| xs <| rK fun K1065 RK1065 hK1065 gK1065 => zz ?_
       obtain ⟨y1066, q, h⟩ := bK q h
       refine zz ?_
       subst hK1065 gK1065
       refine es <| rK fun K1068 RK1068 hK1068 gK1068 => zz ?_
       obtain ⟨h1069, h⟩ := ite_on h
       have h1070 : x982.2.length + 1 ≤ 9223372036854775807 := by omega
       try simp only [Nat.reduceLeDiff] at h1070
       have q := And.intro @h1070 <| And.intro @h1069 <| q
       refine zz ?_
       subst hK1068 gK1068
       refine bn <| es <| rz ?_
       cases h
       exact en ⟨rfl, wk [(3, some 15)]⟩
      ·refine xf <| xx <| ee ?_
       cases h
       exact en ⟨rfl, wk []⟩
     ·refine bh <| es <| rK fun K1073 RK1073 hK1073 gK1073 => zz ?_
      obtain ⟨h1074, h⟩ := ite_on h
      have h1075 : x35.1.length + 1 ≤ 9223372036854775807 := by omega
      try simp only [Nat.reduceLeDiff] at h1075
      have q := And.intro @h1075 <| And.intro @h1074 <| q
      refine zz ?_
      subst hK1073 gK1073
      refine bn <| es <| rz ?_
      cases h
      exact en ⟨rfl, wk [(1, some 7)]⟩
    ·refine xf <| xx <| ee ?_
     cases h
     exact en ⟨rfl, wk [(0, some 1)]⟩
   ·refine bh <| es <| xs <| rz ?_
    refine es <| xr ?_
    cases h
    exact en fr
end Go.Proofs.YtalfcmgcjdkolaaGreatDoor

namespace Go.Proofs.YtalfcmgcjdkolaaGreatDoor
open Go.RowKit
set_option maxRecDepth 100000
set_option maxHeartbeats 10000000
theorem dd_EK : (∀ x, A_Token.d x = .agg [.str x.Text, .int .i64 x.Sg]) := fun _ => rfl
def g_ref36_Cost_s1 (p_0 : A_Pg) (ends_1 : List Int) (x18 : Int × Int) : Option (Nx (Int × Int) (Unit ⊕ Int)) :=
 (if (decide (x18.2 < (ends_1.length : Int))) then ((atI ends_1 x18.2).bind fun y118 => (if (decide (y118 ≤ x18.1)) then (some (.out (.inl ()))) else (if (decide ((p_0.Tokens.length : Int) < y118)) then (some (.out (.inl ()))) else (some (.go (y118, (IntKind.i64.wrap (x18.2 + 1)))))))) else (some (.out (.inr x18.1))))
def g_ref36_Cost_s2 (p_0 : A_Pg) (ends_1 : List Int) (x148 : Int × Int × Int) : Option (Nx (Int × Int × Int) (Unit ⊕ Int)) :=
 (if (decide (x148.2.2 < (ends_1.length : Int))) then ((atI ends_1 x148.2.2).bind fun y278 => ((g_ref36_Fits p_0 x148.1 y278).bind fun r284 => (if r284 then ((g_ref36_row p_0 x148.1 y278).bind fun r291 => (some (.go (y278, (IntKind.i64.wrap (x148.2.1 + r291)), (IntKind.i64.wrap (x148.2.2 + 1)))))) else (some (.out (.inl ())))))) else (some (.out (.inr x148.2.1))))
def g_ref36_Cost (p_0 : A_Pg) (ends_1 : List Int) : Option (Int × Int) :=
 ((g_ref36_Check p_0).bind fun r7 => (if (r7 != 0) then (some (0, r7)) else ((iter (g_ref36_Cost_s1 p_0 ends_1) (0, 0)).bind fun e19 => (match e19 with | Sum.inl e19 => (some (0, 1)) | Sum.inr (e19) => (if (e19 != (p_0.Tokens.length : Int)) then (some (0, 1)) else (if (decide (p_0.Rows < (ends_1.length : Int))) then (some (0, 9)) else ((iter (g_ref36_Cost_s2 p_0 ends_1) (0, 0, 0)).bind fun e149 => (match e149 with | Sum.inl e149 => (some (0, 11)) | Sum.inr (e149) => (some (e149, 0))))))))))
theorem a_ref36_Cost {I : World → Prop} (hI : Stab I) {p_0 : A_Pg} {ends_1 : List Int} {r : Int × Int} (h : g_ref36_Cost p_0 ends_1 = some r) : AFun Tryz.prog I 94 [A_Pg.d p_0, .sl (ends_1.map (D.int .i64))] (.tup [.int .i64 r.1, .int .i64 r.2]) := by
 have dd := And.intro dd_EK <| And.intro dd_EA <| And.intro dd_EB <| And.intro dd_EJ dd_ED; have k := True.intro; have q := k; have rs := Tryz.results94
 unfold g_ref36_Cost at h
 refine .en hI Tryz.func94 Tryz.ntmps94 ?_
 refine xs <| rz ?_
 refine es <| xs <| xs <| rK fun K6 RK6 hK6 gK6 => zz ?_
 obtain ⟨r7, h8, h⟩ := bs h
 refine cw (a_ref36_Check hI h8) <| zz ?_
 subst hK6 gK6
 refine es <| xs <| rz ?_
 refine es ?_
 obtain ⟨k,h⟩|⟨k,h⟩:=iK k h
 ·refine xt <| xs <| rz ?_
  refine es <| xr <| er ?_
  cases h
  exact en fr
 ·refine xf <| xk <| es <| xs <| rz ?_
  refine es <| xs <| xs <| rz ?_
  refine es <| xb ?_
  obtain ⟨e19, h131, h⟩ := bs h
  refine rb_loop (fun x18 => ⟨envL [(1, .sl (ends_1.map (D.int .i64))), (2, .ptr 0 0), (7, .int .i64 x18.1), (18, .sl (ends_1.map (D.int .i64))), (19, .int .i64 (ends_1.length : Int)), (20, .int .i64 x18.2)], heapL [(0, .box none [.sl (p_0.Tokens.map A_Token.d), .int .i64 p_0.Width, .int .i64 p_0.Rows, .int .i64 p_0.Table.Sg.a0, .int .i64 p_0.Table.Sg.a1, .int .i64 p_0.Table.Sg.a2, .int .i64 p_0.Table.Sg.a3, .int .i64 p_0.Table.Sg.a4, .int .i64 p_0.Table.Sg.a5, .int .i64 p_0.Table.Rgd, .int .i64 p_0.Table.Row, .int .i64 p_0.Table.Event, .int .i64 p_0.Table.Fast, .int .i64 p_0.Table.Gap, .int .i64 p_0.Table.Shot])], 1, 66⟩) (fun w => match w with | Sum.inl _ => .ret | Sum.inr (_) => .exit 0) (fun w => match w with | Sum.inl e19 => ⟨envL [(4, .int .i64 0), (5, .int .i64 1)], heapL [], 0, 66⟩ | Sum.inr (e19) => ⟨envL [(1, .sl (ends_1.map (D.int .i64))), (2, .ptr 0 0), (7, .int .i64 e19)], heapL [(0, .box none [.sl (p_0.Tokens.map A_Token.d), .int .i64 p_0.Width, .int .i64 p_0.Rows, .int .i64 p_0.Table.Sg.a0, .int .i64 p_0.Table.Sg.a1, .int .i64 p_0.Table.Sg.a2, .int .i64 p_0.Table.Sg.a3, .int .i64 p_0.Table.Sg.a4, .int .i64 p_0.Table.Sg.a5, .int .i64 p_0.Table.Rgd, .int .i64 p_0.Table.Row, .int .i64 p_0.Table.Event, .int .i64 p_0.Table.Fast, .int .i64 p_0.Table.Gap, .int .i64 p_0.Table.Shot])], 1, 66⟩) h131 (wk []) (by intro w; rcases w with w | w <;> simp) ?_ ?_
  ·clear h
   intro x18 y h
   unfold g_ref36_Cost_s1 at h
   refine xs <| rz ?_
   refine es <| xs ?_
   obtain ⟨k,h⟩|⟨k,h⟩:=iK k h
   ·refine xt <| xk <| es <| xs <| xb <| xs <| rK fun K117 RK117 hK117 gK117 => zz ?_
    obtain ⟨y118, q, h⟩ := bK q h
    refine zz ?_
    subst hK117 gK117
    refine es <| xs <| xs <| rK fun K122 RK122 hK122 gK122 => zz ?_
    obtain ⟨k,h⟩|⟨k,h⟩:=iK k h
    ·refine zz ?_
     subst hK122 gK122
     refine es <| xt <| xs <| rz ?_
     refine es <| xr <| er <| br <| er ?_
     cases h
     exact en ⟨rfl, wk []⟩
    ·refine zz ?_
     subst hK122 gK122
     refine es ?_
     obtain ⟨k,h⟩|⟨k,h⟩:=iK k h
     ·refine xt <| xs <| rz ?_
      refine es <| xr <| er <| br <| er ?_
      cases h
      exact en ⟨rfl, wk []⟩
     ·refine xf <| xk <| es <| rz ?_
      refine bn <| es <| rz ?_
      cases h
      exact en ⟨rfl, wk []⟩
   ·refine xf <| xx <| ee ?_
    cases h
    exact en ⟨rfl, wk []⟩
  ·rcases e19 with e19 | e19
   ·try dsimp only at h ⊢
    refine br <| er ?_
    cases h
    exact en fr
   ·try dsimp only at h ⊢
    refine bh <| es <| xs <| xs <| rz ?_
    refine es ?_
    obtain ⟨k,h⟩|⟨k,h⟩:=iK k h
    ·refine xt <| xs <| rz ?_
     refine es <| xr <| er ?_
     cases h
     exact en fr
    ·refine xf <| xk <| es <| xs <| xs <| rz ?_
     refine es ?_
     obtain ⟨k,h⟩|⟨k,h⟩:=iK k h
     ·refine xt <| xs <| rz ?_
      refine es <| xr <| er ?_
      cases h
      exact en fr
     ·refine xf <| xk <| es <| xs <| rz ?_
      refine es <| xs <| rz ?_
      refine es <| xs <| xs <| rz ?_
      refine es <| xb ?_
      obtain ⟨e149, h297, h⟩ := bs h
      refine rb_loop (fun x148 => ⟨envL [(2, .ptr 0 0), (7, .int .i64 x148.1), (10, .int .i64 x148.2.1), (46, .sl (ends_1.map (D.int .i64))), (47, .int .i64 (ends_1.length : Int)), (48, .int .i64 x148.2.2)], heapL [(0, .box none [.sl (p_0.Tokens.map A_Token.d), .int .i64 p_0.Width, .int .i64 p_0.Rows, .int .i64 p_0.Table.Sg.a0, .int .i64 p_0.Table.Sg.a1, .int .i64 p_0.Table.Sg.a2, .int .i64 p_0.Table.Sg.a3, .int .i64 p_0.Table.Sg.a4, .int .i64 p_0.Table.Sg.a5, .int .i64 p_0.Table.Rgd, .int .i64 p_0.Table.Row, .int .i64 p_0.Table.Event, .int .i64 p_0.Table.Fast, .int .i64 p_0.Table.Gap, .int .i64 p_0.Table.Shot])], 1, 66⟩) (fun w => match w with | Sum.inl _ => .ret | Sum.inr (_) => .exit 2) (fun w => match w with | Sum.inl e149 => ⟨envL [(4, .int .i64 0), (5, .int .i64 11)], heapL [], 0, 66⟩ | Sum.inr (e149) => ⟨envL [(10, .int .i64 e149)], heapL [], 0, 66⟩) h297 (wk []) (by intro w; rcases w with w | w <;> simp) ?_ ?_
      ·clear h
       intro x148 y h
       unfold g_ref36_Cost_s2 at h
       refine xs <| rz ?_
       refine es <| xs ?_
       obtain ⟨k,h⟩|⟨k,h⟩:=iK k h
       ·refine xt <| xk <| es <| xs <| xb <| xs <| rK fun K277 RK277 hK277 gK277 => zz ?_
        obtain ⟨y278, q, h⟩ := bK q h
        refine zz ?_
        subst hK277 gK277
        refine es <| xs <| xs <| rK fun K283 RK283 hK283 gK283 => zz ?_
        obtain ⟨r284, h285, h⟩ := bs h
        refine cw (a_ref36_Fits hI h285) <| zz ?_
        subst hK283 gK283
        refine es ?_
        obtain ⟨k,h⟩|⟨k,h⟩:=iK k h
        ·refine xf <| xk <| es <| xs <| rK fun K290 RK290 hK290 gK290 => zz ?_
         obtain ⟨r291, h292, h⟩ := bs h
         refine cw (a_ref36_row hI h292) <| zz ?_
         subst hK290 gK290
         refine es <| rz ?_
         refine bn <| es <| rz ?_
         cases h
         exact en ⟨rfl, wk []⟩
        ·refine xt <| xs <| rz ?_
         refine es <| xr <| er <| br <| er ?_
         cases h
         exact en ⟨rfl, wk []⟩
       ·refine xf <| xx <| ee ?_
        cases h
        exact en ⟨rfl, wk []⟩
      ·rcases e149 with e149 | e149
       ·try dsimp only at h ⊢
        refine br <| er ?_
        cases h
        exact en fr
       ·try dsimp only at h ⊢
        refine bh <| es <| xs <| rz ?_
        refine es <| xr ?_
        cases h
        exact en fr
def g_ref34_Join_s1 (l_0 : List A_Token) (x7 : (List UInt8) × Int) : Option (Nx ((List UInt8) × Int) ((List UInt8))) :=
 (if (decide (x7.2 < (l_0.length : Int))) then ((atI l_0 x7.2).bind fun y77 => (if (decide (0 < x7.2)) then (if x7.1.length + 1 ≤ 9223372036854775807 then (if (x7.1.length + 1) + y77.Text.length ≤ 9223372036854775807 then (some (.go (((x7.1 ++ [32]) ++ y77.Text), (IntKind.i64.wrap (x7.2 + 1))))) else none) else none) else (if x7.1.length + y77.Text.length ≤ 9223372036854775807 then (some (.go ((x7.1 ++ y77.Text), (IntKind.i64.wrap (x7.2 + 1))))) else none))) else (some (.out x7.1)))
def g_ref34_Join (l_0 : List A_Token) : Option ((List UInt8)) :=
 ((iter (g_ref34_Join_s1 l_0) ([], 0)).bind fun e8 => (some e8))
theorem a_ref34_Join {I : World → Prop} (hI : Stab I) {l_0 : List A_Token} {r : (List UInt8)} (h : g_ref34_Join l_0 = some r) : AFun Tryz.prog I 95 [.sl (l_0.map A_Token.d)] (.str r) := by
 have dd := And.intro dd_EK <| And.intro dd_EA <| And.intro dd_EB <| And.intro dd_EJ dd_ED; have k := True.intro; have q := k; have rs := Tryz.results95
 unfold g_ref34_Join at h
 refine .en hI Tryz.func95 Tryz.ntmps95 ?_
 refine xs <| rz ?_
 refine es <| xs <| rz ?_
 refine es <| xs <| xs <| rz ?_
 refine es <| xb ?_
 obtain ⟨e8, h93, h⟩ := bs h
 refine rb_loop (fun x7 => ⟨envL [(3, .str x7.1), (6, .sl (l_0.map A_Token.d)), (7, .int .i64 (l_0.length : Int)), (8, .int .i64 x7.2)], heapL [], 0, 23⟩) (fun _ => .exit 0) (fun e8 => ⟨envL [(3, .str e8)], heapL [], 0, 23⟩) h93 (wk []) (by intro w; simp) ?_ ?_
 ·clear h
  intro x7 y h
  unfold g_ref34_Join_s1 at h
  refine xs <| rz ?_
  refine es <| xs ?_
  obtain ⟨k,h⟩|⟨k,h⟩:=iK k h
  ·refine xt <| xk <| es <| xs <| xb <| xs <| rK fun K76 RK76 hK76 gK76 => zz ?_
   obtain ⟨y77, q, h⟩ := bK q h
   refine zz ?_
   subst hK76 gK76
   refine es <| xs <| xs <| rz ?_
   refine es ?_
   obtain ⟨k,h⟩|⟨k,h⟩:=iK k h
   ·refine xt <| rK fun K82 RK82 hK82 gK82 => zz ?_
    obtain ⟨h83, h⟩ := ite_on h
    have h84 : x7.1.length + ([32] : List UInt8).length ≤ 9223372036854775807 := by (try simp only [List.length_append, List.length_cons, List.length_nil]); omega
    try simp -implicitDefEqProofs only [vt, vm, sevalprocAttr, dd, k, q] at h84
    have q := And.intro @h84 <| And.intro @h83 <| q
    refine zz ?_
    subst hK82 gK82
    refine es <| rK fun K85 RK85 hK85 gK85 => zz ?_
    obtain ⟨h86, h⟩ := ite_on h
    have h87 : (x7.1 ++ [32]).length + y77.Text.length ≤ 9223372036854775807 := by (try simp only [List.length_append, List.length_cons, List.length_nil]); omega
    try simp -implicitDefEqProofs only [vt, vm, sevalprocAttr, dd, k, q] at h87
    have q := And.intro @h87 <| And.intro @h86 <| q
    refine zz ?_
    subst hK85 gK85
    refine bn <| es <| rz ?_
    cases h
    exact en ⟨rfl, wk []⟩
   ·refine xf <| xk <| es <| rK fun K89 RK89 hK89 gK89 => zz ?_
    obtain ⟨h90, h⟩ := ite_on h
    have h91 : x7.1.length + y77.Text.length ≤ 9223372036854775807 := by (try simp only [List.length_append, List.length_cons, List.length_nil]); omega
    try simp -implicitDefEqProofs only [vt, vm, sevalprocAttr, dd, k, q] at h91
    have q := And.intro @h91 <| And.intro @h90 <| q
    refine zz ?_
    subst hK89 gK89
    refine bn <| es <| rz ?_
    cases h
    exact en ⟨rfl, wk []⟩
  ·refine xf <| xx <| ee ?_
   cases h
   exact en ⟨rfl, wk []⟩
 ·refine bh <| es <| xs <| rz ?_
  refine es <| xr ?_
  cases h
  exact en fr
def g_ref36_Rows_s1 (p_0 : A_Pg) (ends_1 : List Int) (x20 : Int × Int × (List (List UInt8))) : Option (Nx (Int × Int × (List (List UInt8))) ((List (List UInt8)))) :=
 (if (decide (x20.2.1 < (ends_1.length : Int))) then ((atI ends_1 x20.2.1).bind fun y195 => ((subI p_0.Tokens x20.1 y195).bind fun z210 => ((g_ref34_Join z210).bind fun r217 => (if (x20.2.2.length + 1) * 16 ≤ 140737488355328 then (some (.go (y195, (IntKind.i64.wrap (x20.2.1 + 1)), (x20.2.2 ++ [r217])))) else none)))) else (some (.out x20.2.2)))
def g_ref36_Rows (p_0 : A_Pg) (ends_1 : List Int) : Option ((List (List UInt8)) × Int) :=
 ((g_ref36_Cost p_0 ends_1).bind fun r7 => (if (r7.2 != 0) then (some ([], r7.2)) else ((iter (g_ref36_Rows_s1 p_0 ends_1) (0, 0, [])).bind fun e21 => (some (e21, 0)))))
theorem a_ref36_Rows {I : World → Prop} (hI : Stab I) {p_0 : A_Pg} {ends_1 : List Int} {r : (List (List UInt8)) × Int} (h : g_ref36_Rows p_0 ends_1 = some r) : AFun Tryz.prog I 53 [A_Pg.d p_0, .sl (ends_1.map (D.int .i64))] (.tup [.sl (r.1.map D.str), .int .i64 r.2]) := by
 have dd := And.intro dd_EK <| And.intro dd_EA <| And.intro dd_EB <| And.intro dd_EJ dd_ED; have k := True.intro; have q := k; have rs := Tryz.results53
 unfold g_ref36_Rows at h
 refine .en hI Tryz.func53 Tryz.ntmps53 ?_
 refine xs <| rz ?_
 refine es <| xs <| xs <| rK fun K6 RK6 hK6 gK6 => zz ?_
 obtain ⟨r7, h8, h⟩ := bs h
 refine cw (a_ref36_Cost hI h8) <| zz ?_
 subst hK6 gK6
 refine es <| xs <| rz ?_
 refine es ?_
 obtain ⟨k,h⟩|⟨k,h⟩:=iK k h
 ·refine xt <| xs <| rz ?_
  refine es <| xr <| er ?_
  cases h
  exact en fr
 ·refine xf <| xk <| es <| xs <| rz ?_
  refine es <| xs <| rz ?_
  refine es <| xs <| xs <| rz ?_
  refine es <| xb ?_
  obtain ⟨e21, h223, h⟩ := bs h
  refine rb_loop (fun x20 => ⟨envL [(2, .ptr 0 0), (8, .own 1 x20.2.2.length), (9, .int .i64 x20.1), (22, .sl (ends_1.map (D.int .i64))), (23, .int .i64 (ends_1.length : Int)), (24, .int .i64 x20.2.1)], heapL [(0, .box none [.sl (p_0.Tokens.map A_Token.d), .int .i64 p_0.Width, .int .i64 p_0.Rows, .int .i64 p_0.Table.Sg.a0, .int .i64 p_0.Table.Sg.a1, .int .i64 p_0.Table.Sg.a2, .int .i64 p_0.Table.Sg.a3, .int .i64 p_0.Table.Sg.a4, .int .i64 p_0.Table.Sg.a5, .int .i64 p_0.Table.Rgd, .int .i64 p_0.Table.Row, .int .i64 p_0.Table.Event, .int .i64 p_0.Table.Fast, .int .i64 p_0.Table.Gap, .int .i64 p_0.Table.Shot]), (1, .vec 9 1 (x20.2.2.map D.str) false)], 2, 40⟩) (fun _ => .exit 0) (fun e21 => ⟨envL [(8, .own 0 e21.length)], heapL [(0, .vec 9 1 (e21.map D.str) false)], 1, 40⟩) h223 (wk [(1, some 13)]) (by intro w; simp) ?_ ?_
  ·clear h
   intro x20 y h
   unfold g_ref36_Rows_s1 at h
   refine xs <| rz ?_
   refine es <| xs ?_
   obtain ⟨k,h⟩|⟨k,h⟩:=iK k h
   ·refine xt <| xk <| es <| xs <| xb <| xs <| rK fun K194 RK194 hK194 gK194 => zz ?_
    obtain ⟨y195, q, h⟩ := bK q h
    refine zz ?_
    subst hK194 gK194
    refine es <| xs <| rK fun K209 RK209 hK209 gK209 => zz ?_
    obtain ⟨z210, h211, h⟩ := bind_some h
    obtain ⟨⟨h212, h213, h214, h215⟩, h216⟩ := subI_some h211
    have q := And.intro @h212 <| And.intro @h213 <| And.intro @h214 <| And.intro @h215 <| q
    try simp -implicitDefEqProofs only [vt, vm, sevalprocAttr, dd, k, q] at h216
    have q := And.intro @h216 <| q
    refine zz ?_
    obtain ⟨r217, h218, h⟩ := bs h
    refine cw (a_ref34_Join hI h218) <| zz ?_
    obtain ⟨h219, h⟩ := ite_on h
    have h220 : x20.2.2.length + 1 ≤ 9223372036854775807 := by omega
    try simp only [Nat.reduceLeDiff] at h220
    have q := And.intro @h220 <| And.intro @h219 <| q
    refine zz ?_
    subst hK209 gK209
    refine es <| rz ?_
    refine bn <| es <| rz ?_
    cases h
    exact en ⟨rfl, wk [(1, some 14)]⟩
   ·refine xf <| xx <| ee ?_
    cases h
    exact en ⟨rfl, wk [(0, some 1)]⟩
  ·refine bh <| es <| xs <| rz ?_
   refine es <| xr ?_
   cases h
   exact en fr
def g_ref09_Norm_s1 (row_0 : A_Row) (x7 : (List A_Run) × Int) : Option (Nx ((List A_Run) × Int) ((List A_Run))) :=
 (if (decide (x7.2 < (row_0.Runs.length : Int))) then ((atI row_0.Runs x7.2).bind fun y199 => (if (y199.Text == ([] : List UInt8)) then (some (.go (x7.1, (IntKind.i64.wrap (x7.2 + 1))))) else (((if (decide (0 < ((x7.1.length : Nat) : Int))) then ((atI x7.1 (IntKind.i64.wrap (((x7.1.length : Nat) : Int) - 1))).bind fun y215 => (if ((y215.Style.Color == y199.Style.Color) && ((y215.Style.Italic == y199.Style.Italic) && (y215.Style.Underline == y199.Style.Underline))) then (if (y215.Ruby == ([] : List UInt8)) then (some (y199.Ruby == ([] : List UInt8))) else (some false)) else (some false))) else (some false)) : Option (Bool)).bind fun v212 => (if v212 then ((atI x7.1 (IntKind.i64.wrap (((x7.1.length : Nat) : Int) - 1))).bind fun y231 => (if y231.Text.length + y199.Text.length ≤ 9223372036854775807 then ((setI x7.1 (IntKind.i64.wrap (((x7.1.length : Nat) : Int) - 1)) (A_Run.mk (y231.Text ++ y199.Text) y231.Style y231.Ruby)).bind fun m234 => (some (.go (m234, (IntKind.i64.wrap (x7.2 + 1)))))) else none)) else (if (x7.1.length + 1) * 40 ≤ 140737488355328 then (some (.go ((x7.1 ++ [y199]), (IntKind.i64.wrap (x7.2 + 1))))) else none))))) else (some (.out x7.1)))
def g_ref09_Norm (row_0 : A_Row) : Option (A_Row) :=
 ((iter (g_ref09_Norm_s1 row_0) ([], 0)).bind fun e8 => (some (A_Row.mk e8)))
theorem a_ref09_Norm {I : World → Prop} (hI : Stab I) {row_0 : A_Row} {r : A_Row} (h : g_ref09_Norm row_0 = some r) : AFun Tryz.prog I 96 [A_Row.d row_0] (A_Row.d r) := by
 have dd := And.intro dd_EK <| And.intro dd_EA <| And.intro dd_EB <| And.intro dd_EJ dd_ED; have k := True.intro; have q := k; have rs := Tryz.results96
 unfold g_ref09_Norm at h
 refine .en hI Tryz.func96 Tryz.ntmps96 ?_
 refine xs <| rz ?_
 refine es <| xs <| rz ?_
 refine es <| xs <| xs <| rz ?_
 refine es <| xb ?_
 obtain ⟨e8, h245, h⟩ := bs h
 refine rb_loop (fun x7 => ⟨envL [(2, .ptr 0 0), (3, .own 1 x7.1.length), (8, .sl (row_0.Runs.map A_Run.d)), (9, .int .i64 (row_0.Runs.length : Int)), (10, .int .i64 x7.2)], heapL [(0, .box none [.nils]), (1, .vec 125 5 (x7.1.map A_Run.d) false)], 2, 64⟩) (fun _ => .exit 0) (fun e8 => ⟨envL [(2, .ptr 0 0), (3, .own 1 e8.length)], heapL [(0, .box none [.nils]), (1, .vec 125 5 (e8.map A_Run.d) false)], 2, 64⟩) h245 (wk [(0, some 1), (1, none)]) (by intro w; simp) ?_ ?_
 ·clear h
  intro x7 y h
  unfold g_ref09_Norm_s1 at h
  refine xs <| rz ?_
  refine es <| xs ?_
  obtain ⟨k,h⟩|⟨k,h⟩:=iK k h
  ·refine xt <| xk <| es <| xs <| xb <| xs <| rK fun K198 RK198 hK198 gK198 => zz ?_
   obtain ⟨y199, q, h⟩ := bK q h
   refine zz ?_
   subst hK198 gK198
   refine es <| xs <| xs <| rz ?_
   refine es ?_
   obtain ⟨k,h⟩|⟨k,h⟩:=iK k h
   ·refine xt <| xx <| ee <| bh <| es <| rz ?_
    cases h
    exact en ⟨rfl, wk []⟩
   ·refine xf <| xk <| es <| xs <| rz ?_
    refine es <| xs ?_
    obtain ⟨v212, h218, h⟩ := bs h
    refine rb_cut (fun v212 => ⟨envL [(2, .ptr 0 0), (3, .own 1 x7.1.length), (5, .ptr 2 0), (6, .int .i64 ((x7.1.length : Nat) : Int)), (8, .sl (row_0.Runs.map A_Run.d)), (9, .int .i64 (row_0.Runs.length : Int)), (10, .int .i64 x7.2), (45, .bool v212)], heapL [(0, .box none [.nils]), (1, .vec 125 5 (x7.1.map A_Run.d) false), (2, .box none [.str y199.Text, .int .u8 y199.Style.Color, .bool y199.Style.Italic, .bool y199.Style.Underline, .str y199.Ruby])], 3, 64⟩) h218 ?_ ?_
    ·clear h
     intro v212 h
     refine rD hI fun K213 RK213 hK213 gK213 => zz ?_
     obtain ⟨k,h⟩|⟨k,h⟩:=iK k h
     ·refine zz ?_
      obtain ⟨y215, q, h⟩ := oN q h
      refine zz ?_
      obtain ⟨k,h⟩|⟨k,h⟩:=iK k h
      ·refine zz ?_
       obtain ⟨k,h⟩|⟨k,h⟩:=iK k h
       ·refine zz ?_
        subst hK213 gK213
        cases h
        exact en ⟨rfl, wk [(2, some 5)]⟩
       ·refine zz ?_
        subst hK213 gK213
        cases h
        exact en ⟨rfl, wk [(2, some 5)]⟩
      ·refine zz ?_
       subst hK213 gK213
       cases h
       exact en ⟨rfl, wk [(2, some 5)]⟩
     ·refine zz ?_
      subst hK213 gK213
      cases h
      exact en ⟨rfl, wk [(2, some 5)]⟩
    ·obtain ⟨k,h⟩|⟨k,h⟩:=iK k h
     ·refine xt <| xs <| rD hI fun K230 RK230 hK230 gK230 => zz ?_
      obtain ⟨y231, q, h⟩ := oN q h
      refine zz ?_
      obtain ⟨h232, h⟩ := ite_on h
      have h233 : y231.Text.length + y199.Text.length ≤ 9223372036854775807 := by (try simp only [List.length_append, List.length_cons, List.length_nil]); omega
      try simp -implicitDefEqProofs only [vt, vm, sevalprocAttr, dd, k, q] at h233
      have q := And.intro @h233 <| And.intro @h232 <| q
      refine zz ?_
      obtain ⟨m234, h235, h⟩ := bind_some h
      obtain ⟨h236, h237, h238, h239⟩ := setI_some h235
      have h239 := h239 A_Run.d
      try simp only [sevalprocAttr, List.map_nil, dd] at h239
      rw [h238] at h239
      have q := And.intro @h236 <| And.intro @h237 <| And.intro @h238 <| And.intro @h239 <| q
      refine zz ?_
      refine hd <| zz ?_
      subst hK230 gK230
      refine es <| xx <| ee <| bh <| es <| rz ?_
      cases h
      exact en ⟨rfl, wk []⟩
     ·refine xf <| xk <| es <| rK fun K241 RK241 hK241 gK241 => zz ?_
      obtain ⟨h242, h⟩ := ite_on h
      have h243 : x7.1.length + 1 ≤ 9223372036854775807 := by omega
      try simp only [Nat.reduceLeDiff] at h243
      have q := And.intro @h243 <| And.intro @h242 <| q
      refine zz ?_
      subst hK241 gK241
      refine bn <| es <| rz ?_
      cases h
      exact en ⟨rfl, wk [(1, some 6)]⟩
  ·refine xf <| xx <| ee ?_
   cases h
   exact en ⟨rfl, wk []⟩
 ·refine bh <| es <| xs <| rz ?_
  refine es <| xr ?_
  cases h
  exact en fr
def g_ref09_Of (text_0 : List UInt8) (s_1 : A_Style) : Option (A_Row) :=
 ((g_ref09_Norm (A_Row.mk [(A_Run.mk text_0 s_1 [])])).bind fun r7 => (some r7))
theorem a_ref09_Of {I : World → Prop} (hI : Stab I) {text_0 : List UInt8} {s_1 : A_Style} {r : A_Row} (h : g_ref09_Of text_0 s_1 = some r) : AFun Tryz.prog I 54 [.str text_0, A_Style.d s_1] (A_Row.d r) := by
 have dd := And.intro dd_EK <| And.intro dd_EA <| And.intro dd_EB <| And.intro dd_EJ dd_ED; have k := True.intro; have q := k; have rs := Tryz.results54
 unfold g_ref09_Of at h
 refine .en hI Tryz.func54 Tryz.ntmps54 ?_
 refine xs <| rz ?_
 refine es <| xs <| rK fun K6 RK6 hK6 gK6 => zz ?_
 obtain ⟨r7, h8, h⟩ := bs h
 refine cw (a_ref09_Norm hI h8) <| zz ?_
 subst hK6 gK6
 refine es <| xr ?_
 cases h
 exact en fr
def g_ref38_Events_s2 (r736 : (List (List UInt8)) × Int) (x740 : Int × (List A_Row)) : Option (Nx (Int × (List A_Row)) ((List A_Row))) :=
 (if (decide (x740.1 < (r736.1.length : Int))) then ((atI r736.1 x740.1).bind fun y838 => ((g_ref09_Of y838 (A_Style.mk 0 false false)).bind fun r841 => (if (x740.2.length + 1) * 24 ≤ 140737488355328 then (some (.go ((IntKind.i64.wrap (x740.1 + 1)), (x740.2 ++ [r841])))) else none))) else (some (.out x740.2)))
def g_ref38_Events_s1 (s_0 : A_Sh) (l_1 : List A_Part) (x18 : Int × (List A_Event)) : Option (Nx (Int × (List A_Event)) ((List A_Event))) :=
 (if (decide (x18.1 < (l_1.length : Int))) then ((atI l_1 x18.1).bind fun y718 => ((g_ref38_Part s_0 y718.From y718.To).bind fun r724 => ((g_ref38_paragraph s_0 r724.1.From r724.1.To).bind fun r734 => ((g_ref36_Rows r734 r724.1.Breaks).bind fun r736 => ((iter (g_ref38_Events_s2 r736) (0, [])).bind fun e741 => (if (x18.2.length + 1) * 88 ≤ 140737488355328 then (some (.go ((IntKind.i64.wrap (x18.1 + 1)), (x18.2 ++ [(A_Event.mk (IntKind.i64.wrap (x18.1 + 1)) r724.1.Span [] 1 [] e741)])))) else none)))))) else (some (.out x18.2)))
def g_ref38_Events (s_0 : A_Sh) (l_1 : List A_Part) : Option ((List A_Event) × Int) :=
 ((g_ref38_Cost s_0 l_1).bind fun r7 => (if (r7.2 != 0) then (some ([], r7.2)) else ((iter (g_ref38_Events_s1 s_0 l_1) (0, [])).bind fun e19 => (some (e19, 0)))))
theorem a_ref38_Events {I : World → Prop} (hI : Stab I) {s_0 : A_Sh} {l_1 : List A_Part} {r : (List A_Event) × Int} (h : g_ref38_Events s_0 l_1 = some r) : AFun Tryz.prog I 22 [A_Sh.d s_0, .sl (l_1.map A_Part.d)] (.tup [.sl (r.1.map A_Event.d), .int .i64 r.2]) := by
 have dd := And.intro dd_EK <| And.intro dd_EA <| And.intro dd_EB <| And.intro dd_EJ dd_ED; have k := True.intro; have q := k; have rs := Tryz.results22
 unfold g_ref38_Events at h
 refine .en hI Tryz.func22 Tryz.ntmps22 ?_
 refine xs <| rz ?_
 refine es <| xs <| xs <| rK fun K6 RK6 hK6 gK6 => zz ?_
 obtain ⟨r7, h8, h⟩ := bs h
 refine cw (a_ref38_Cost hI h8) <| zz ?_
 subst hK6 gK6
 refine es <| xs <| rz ?_
 refine es ?_
 obtain ⟨k,h⟩|⟨k,h⟩:=iK k h
 ·refine xt <| xs <| rz ?_
  refine es <| xr <| er ?_
  cases h
  exact en fr
 ·refine xf <| xk <| es <| xs <| rz ?_
  refine es <| xs <| xs <| rz ?_
  refine es <| xb ?_
  obtain ⟨e19, h851, h⟩ := bs h
  refine rb_loop (fun x18 => ⟨envL [(2, .ptr 0 0), (8, .own 1 x18.2.length), (29, .sl (l_1.map A_Part.d)), (30, .int .i64 (l_1.length : Int)), (31, .int .i64 x18.1)], heapL [(0, .box none [.int .u8 s_0.Rate, .sl (s_0.Words.map A_Word.d), .sl (s_0.Shots.map (D.int .i64)), .int .i64 s_0.Table.Sg.a0, .int .i64 s_0.Table.Sg.a1, .int .i64 s_0.Table.Sg.a2, .int .i64 s_0.Table.Sg.a3, .int .i64 s_0.Table.Sg.a4, .int .i64 s_0.Table.Sg.a5, .int .i64 s_0.Table.Rgd, .int .i64 s_0.Table.Row, .int .i64 s_0.Table.Event, .int .i64 s_0.Table.Fast, .int .i64 s_0.Table.Gap, .int .i64 s_0.Table.Shot, .str s_0.House.Name, .int .i64 s_0.House.Reading, .int .i64 s_0.House.MnF, .int .i64 s_0.House.MxF, .int .i64 s_0.House.MnG, .int .i64 s_0.House.ShB, .int .i64 s_0.House.ShA, .int .i64 s_0.House.Rows, .int .i64 s_0.House.Cols, .str s_0.House.Fbd, .int .i64 s_0.House.SfT, .int .i64 s_0.House.SfB, .int .i64 s_0.House.SfL, .int .i64 s_0.House.SfR]), (1, .vec 61 7 (x18.2.map A_Event.d) false)], 2, 84⟩) (fun _ => .exit 0) (fun e19 => ⟨envL [(8, .own 0 e19.length)], heapL [(0, .vec 61 7 (e19.map A_Event.d) false)], 1, 84⟩) h851 (wk [(1, some 13)]) (by intro w; simp) ?_ ?_
  ·clear h
   intro x18 y h
   unfold g_ref38_Events_s1 at h
   refine xs <| rz ?_
   refine es <| xs ?_
   obtain ⟨k,h⟩|⟨k,h⟩:=iK k h
   ·refine xt <| xk <| es <| xs <| xb <| xs <| rK fun K717 RK717 hK717 gK717 => zz ?_
    obtain ⟨y718, q, h⟩ := bK q h
    refine zz ?_
    subst hK717 gK717
    refine es <| xs <| rK fun K723 RK723 hK723 gK723 => zz ?_
    obtain ⟨r724, h725, h⟩ := bs h
    refine cw (a_ref38_Part hI h725) <| zz ?_
    subst hK723 gK723
    refine es <| xs <| rz ?_
    refine es <| xs <| rD hI fun K733 RK733 hK733 gK733 => zz ?_
    obtain ⟨r734, h735, h⟩ := bs h
    refine cd (a_ref38_paragraph hI h735) <| zz ?_
    obtain ⟨r736, h737, h⟩ := bs h
    refine cd (a_ref36_Rows hI h737) <| zz ?_
    subst hK733 gK733
    refine es <| xs <| xs <| rz ?_
    refine es <| xb ?_
    obtain ⟨e741, h846, h⟩ := bs h
    refine rb_loop (fun x740 => ⟨envL [(2, .ptr 0 0), (8, .own 1 x18.2.length), (14, .ptr 2 0), (29, .sl (l_1.map A_Part.d)), (30, .int .i64 (l_1.length : Int)), (31, .int .i64 x18.1), (63, .sl (r736.1.map D.str)), (64, .int .i64 (r736.1.length : Int)), (65, .int .i64 x740.1)], heapL [(0, .box none [.int .u8 s_0.Rate, .sl (s_0.Words.map A_Word.d), .sl (s_0.Shots.map (D.int .i64)), .int .i64 s_0.Table.Sg.a0, .int .i64 s_0.Table.Sg.a1, .int .i64 s_0.Table.Sg.a2, .int .i64 s_0.Table.Sg.a3, .int .i64 s_0.Table.Sg.a4, .int .i64 s_0.Table.Sg.a5, .int .i64 s_0.Table.Rgd, .int .i64 s_0.Table.Row, .int .i64 s_0.Table.Event, .int .i64 s_0.Table.Fast, .int .i64 s_0.Table.Gap, .int .i64 s_0.Table.Shot, .str s_0.House.Name, .int .i64 s_0.House.Reading, .int .i64 s_0.House.MnF, .int .i64 s_0.House.MxF, .int .i64 s_0.House.MnG, .int .i64 s_0.House.ShB, .int .i64 s_0.House.ShA, .int .i64 s_0.House.Rows, .int .i64 s_0.House.Cols, .str s_0.House.Fbd, .int .i64 s_0.House.SfT, .int .i64 s_0.House.SfB, .int .i64 s_0.House.SfL, .int .i64 s_0.House.SfR]), (1, .vec 61 7 (x18.2.map A_Event.d) false), (2, .box none [.int .i64 (IntKind.i64.wrap (x18.1 + 1)), .int .i64 r724.1.Span.In, .int .i64 r724.1.Span.Out, .str [], .int .u8 1, .str [], .own 3 x740.2.length]), (3, .vec 68 1 (x740.2.map A_Row.d) false)], 4, 84⟩) (fun _ => .exit 2) (fun e741 => ⟨envL [(2, .ptr 0 0), (8, .own 1 x18.2.length), (14, .ptr 2 0), (29, .sl (l_1.map A_Part.d)), (30, .int .i64 (l_1.length : Int)), (31, .int .i64 x18.1)], heapL [(0, .box none [.int .u8 s_0.Rate, .sl (s_0.Words.map A_Word.d), .sl (s_0.Shots.map (D.int .i64)), .int .i64 s_0.Table.Sg.a0, .int .i64 s_0.Table.Sg.a1, .int .i64 s_0.Table.Sg.a2, .int .i64 s_0.Table.Sg.a3, .int .i64 s_0.Table.Sg.a4, .int .i64 s_0.Table.Sg.a5, .int .i64 s_0.Table.Rgd, .int .i64 s_0.Table.Row, .int .i64 s_0.Table.Event, .int .i64 s_0.Table.Fast, .int .i64 s_0.Table.Gap, .int .i64 s_0.Table.Shot, .str s_0.House.Name, .int .i64 s_0.House.Reading, .int .i64 s_0.House.MnF, .int .i64 s_0.House.MxF, .int .i64 s_0.House.MnG, .int .i64 s_0.House.ShB, .int .i64 s_0.House.ShA, .int .i64 s_0.House.Rows, .int .i64 s_0.House.Cols, .str s_0.House.Fbd, .int .i64 s_0.House.SfT, .int .i64 s_0.House.SfB, .int .i64 s_0.House.SfL, .int .i64 s_0.House.SfR]), (1, .vec 61 7 (x18.2.map A_Event.d) false), (2, .box none [.int .i64 (IntKind.i64.wrap (x18.1 + 1)), .int .i64 r724.1.Span.In, .int .i64 r724.1.Span.Out, .str [], .int .u8 1, .str [], .own 3 e741.length]), (3, .vec 68 1 (e741.map A_Row.d) false)], 4, 84⟩) h846 (wk [(2, some 28), (3, none)]) (by intro w; simp) ?_ ?_
    ·clear h
     intro x740 y h
     unfold g_ref38_Events_s2 at h
     refine xs <| rz ?_
     refine es <| xs ?_
     obtain ⟨k,h⟩|⟨k,h⟩:=iK k h
     ·refine xt <| xk <| es <| xs <| xb <| xs <| rK fun K837 RK837 hK837 gK837 => zz ?_
      obtain ⟨y838, q, h⟩ := bK q h
      refine zz ?_
      subst hK837 gK837
      refine es <| rD hI fun K840 RK840 hK840 gK840 => zz ?_
      obtain ⟨r841, h842, h⟩ := bs h
      refine cd (a_ref09_Of hI h842) <| zz ?_
      obtain ⟨h843, h⟩ := ite_on h
      have h844 : x740.2.length + 1 ≤ 9223372036854775807 := by omega
      try simp only [Nat.reduceLeDiff] at h844
      have q := And.intro @h844 <| And.intro @h843 <| q
      refine zz ?_
      refine hd <| zz ?_
      refine hd <| zz ?_
      subst hK840 gK840
      refine bn <| es <| rz ?_
      cases h
      exact en ⟨rfl, wk [(3, some 14)]⟩
     ·refine xf <| xx <| ee ?_
      cases h
      exact en ⟨rfl, wk []⟩
    ·refine bh <| es <| rK fun K847 RK847 hK847 gK847 => zz ?_
     obtain ⟨h848, h⟩ := ite_on h
     have h849 : x18.2.length + 1 ≤ 9223372036854775807 := by omega
     try simp only [Nat.reduceLeDiff] at h849
     have q := And.intro @h849 <| And.intro @h848 <| q
     refine zz ?_
     subst hK847 gK847
     refine bn <| es <| rz ?_
     cases h
     exact en ⟨rfl, wk [(1, some 7)]⟩
   ·refine xf <| xx <| ee ?_
    cases h
    exact en ⟨rfl, wk [(0, some 1)]⟩
  ·refine bh <| es <| xs <| rz ?_
   refine es <| xr ?_
   cases h
   exact en fr
theorem dd_EL : (∀ x, A_Style.d x = .agg [.int .u8 x.Color, .bool x.Italic, .bool x.Underline]) := fun _ => rfl
def g_slEqU_s1 (s1_0 : List A_Run) (s2_1 : List A_Run) (x10 : Int) : Option (Nx (Int) (Unit ⊕ Unit)) :=
 (if (decide (x10 < (s1_0.length : Int))) then ((atI s1_0 x10).bind fun y74 => ((atI s2_1 x10).bind fun y76 => (if ((y74.Text == y76.Text) && ((y74.Style.Color == y76.Style.Color) && ((y74.Style.Italic == y76.Style.Italic) && ((y74.Style.Underline == y76.Style.Underline) && (y74.Ruby == y76.Ruby))))) then (some (.go (IntKind.i64.wrap (x10 + 1)))) else (some (.out (.inl ())))))) else (some (.out (.inr ()))))
def g_slEqU (s1_0 : List A_Run) (s2_1 : List A_Run) : Option (Bool) :=
 (if ((s1_0.length : Int) != (s2_1.length : Int)) then (some false) else ((iter (g_slEqU_s1 s1_0 s2_1) 0).bind fun e11 => (match e11 with | Sum.inl e11 => (some false) | Sum.inr (e11) => (some true))))
theorem a_slEqU {I : World → Prop} (hI : Stab I) {s1_0 : List A_Run} {s2_1 : List A_Run} {r : Bool} (h : g_slEqU s1_0 s2_1 = some r) : AFun Tryz.prog I 97 [.sl (s1_0.map A_Run.d), .sl (s2_1.map A_Run.d)] (.bool r) := by
 have dd := And.intro dd_EL <| And.intro dd_EJ <| And.intro dd_EA <| And.intro dd_EB dd_ED; have k := True.intro; have q := k; have rs := Tryz.results97
 unfold g_slEqU at h
 refine .en hI Tryz.func97 Tryz.ntmps97 ?_
 refine xs <| rz ?_
 refine es <| xs <| xs <| rz ?_
 refine es ?_
 obtain ⟨k,h⟩|⟨k,h⟩:=iK k h
 ·refine xt <| xs <| rz ?_
  refine es <| xr <| er ?_
  cases h
  exact en fr
 ·refine xf <| xk <| es <| xs <| xs <| rz ?_
  refine es <| xb ?_
  obtain ⟨e11, h82, h⟩ := bs h
  refine rb_loop (fun x10 => ⟨envL [(0, .sl (s1_0.map A_Run.d)), (1, .sl (s2_1.map A_Run.d)), (12, .int .i64 (s1_0.length : Int)), (13, .int .i64 x10)], heapL [], 0, 26⟩) (fun w => match w with | Sum.inl _ => .ret | Sum.inr (_) => .exit 0) (fun w => match w with | Sum.inl e11 => ⟨envL [(4, .bool false)], heapL [], 0, 26⟩ | Sum.inr (e11) => ⟨envL [], heapL [], 0, 26⟩) h82 (wk []) (by intro w; rcases w with w | w <;> simp) ?_ ?_
  ·clear h
   intro x10 y h
   unfold g_slEqU_s1 at h
   refine xs <| rz ?_
   refine es <| xs ?_
   obtain ⟨k,h⟩|⟨k,h⟩:=iK k h
   ·refine xt <| xk <| es <| xs <| xb <| xs <| rz ?_
    refine es <| xs <| rD hI fun K73 RK73 hK73 gK73 => zz ?_
    obtain ⟨y74, q, h⟩ := bK q h
    refine zz ?_
    obtain ⟨y76, q, h⟩ := bK q h
    refine zz ?_
    subst hK73 gK73
    refine es ?_
    obtain ⟨k,h⟩|⟨k,h⟩:=iK k h
    ·refine xf <| xk <| bn <| es <| rz ?_
     cases h
     exact en ⟨rfl, wk []⟩
    ·refine xt <| xs <| rz ?_
     refine es <| xr <| br <| er ?_
     cases h
     exact en ⟨rfl, wk []⟩
   ·refine xf <| xx <| ee ?_
    cases h
    exact en ⟨rfl, wk []⟩
  ·rcases e11 with e11 | e11
   ·try dsimp only at h ⊢
    refine br <| er ?_
    cases h
    exact en fr
   ·try dsimp only at h ⊢
    refine bh <| es <| xs <| rz ?_
    refine es <| xr ?_
    cases h
    exact en fr
def g_style_Same (a_0 : A_Row) (b_1 : A_Row) : Option (Bool) :=
 ((g_slEqU a_0.Runs b_1.Runs).bind fun r7 => (some r7))
theorem a_style_Same {I : World → Prop} (hI : Stab I) {a_0 : A_Row} {b_1 : A_Row} {r : Bool} (h : g_style_Same a_0 b_1 = some r) : AFun Tryz.prog I 56 [A_Row.d a_0, A_Row.d b_1] (.bool r) := by
 have dd := And.intro dd_EL <| And.intro dd_EJ <| And.intro dd_EA <| And.intro dd_EB dd_ED; have k := True.intro; have q := k; have rs := Tryz.results56
 unfold g_style_Same at h
 refine .en hI Tryz.func56 Tryz.ntmps56 ?_
 refine xs <| rz ?_
 refine es <| xs <| rK fun K6 RK6 hK6 gK6 => zz ?_
 obtain ⟨r7, h8, h⟩ := bs h
 refine cw (a_slEqU hI h8) <| zz ?_
 subst hK6 gK6
 refine es <| xr ?_
 cases h
 exact en fr
def g_slEqR_s1 (s1_0 : List A_Row) (s2_1 : List A_Row) (x10 : Int) : Option (Nx (Int) (Unit ⊕ Unit)) :=
 (if (decide (x10 < (s1_0.length : Int))) then ((atI s1_0 x10).bind fun y88 => ((atI s2_1 x10).bind fun y94 => ((g_style_Same y88 y94).bind fun r100 => (if r100 then (some (.go (IntKind.i64.wrap (x10 + 1)))) else (some (.out (.inl ()))))))) else (some (.out (.inr ()))))
def g_slEqR (s1_0 : List A_Row) (s2_1 : List A_Row) : Option (Bool) :=
 (if ((s1_0.length : Int) != (s2_1.length : Int)) then (some false) else ((iter (g_slEqR_s1 s1_0 s2_1) 0).bind fun e11 => (match e11 with | Sum.inl e11 => (some false) | Sum.inr (e11) => (some true))))
theorem a_slEqR {I : World → Prop} (hI : Stab I) {s1_0 : List A_Row} {s2_1 : List A_Row} {r : Bool} (h : g_slEqR s1_0 s2_1 = some r) : AFun Tryz.prog I 55 [.sl (s1_0.map A_Row.d), .sl (s2_1.map A_Row.d), .fn 56 []] (.bool r) := by
 have dd := And.intro dd_EL <| And.intro dd_EJ <| And.intro dd_EA <| And.intro dd_EB dd_ED; have k := True.intro; have q := k; have rs := Tryz.results55
 unfold g_slEqR at h
 refine .en hI Tryz.func55 Tryz.ntmps55 ?_
 refine xs <| rz ?_
 refine es <| xs <| xs <| rz ?_
 refine es ?_
 obtain ⟨k,h⟩|⟨k,h⟩:=iK k h
 ·refine xt <| xs <| rz ?_
  refine es <| xr <| er ?_
  cases h
  exact en fr
 ·refine xf <| xk <| es <| xs <| xs <| rz ?_
  refine es <| xb ?_
  obtain ⟨e11, h106, h⟩ := bs h
  refine rb_loop (fun x10 => ⟨envL [(1, .sl (s2_1.map A_Row.d)), (2, .fn 56 []), (15, .sl (s1_0.map A_Row.d)), (16, .int .i64 (s1_0.length : Int)), (17, .int .i64 x10)], heapL [], 0, 32⟩) (fun w => match w with | Sum.inl _ => .ret | Sum.inr (_) => .exit 0) (fun w => match w with | Sum.inl e11 => ⟨envL [(6, .bool false)], heapL [], 0, 32⟩ | Sum.inr (e11) => ⟨envL [], heapL [], 0, 32⟩) h106 (wk []) (by intro w; rcases w with w | w <;> simp) ?_ ?_
  ·clear h
   intro x10 y h
   unfold g_slEqR_s1 at h
   refine xs <| rz ?_
   refine es <| xs ?_
   obtain ⟨k,h⟩|⟨k,h⟩:=iK k h
   ·refine xt <| xk <| es <| xs <| xb <| xs <| rK fun K87 RK87 hK87 gK87 => zz ?_
    obtain ⟨y88, q, h⟩ := bK q h
    refine zz ?_
    subst hK87 gK87
    refine es <| xs <| rK fun K93 RK93 hK93 gK93 => zz ?_
    obtain ⟨y94, q, h⟩ := bK q h
    refine zz ?_
    subst hK93 gK93
    refine es <| xs <| rK fun K99 RK99 hK99 gK99 => zz ?_
    obtain ⟨r100, h101, h⟩ := bs h
    refine cw (a_style_Same hI h101) <| zz ?_
    subst hK99 gK99
    refine es ?_
    obtain ⟨k,h⟩|⟨k,h⟩:=iK k h
    ·refine xf <| xk <| bn <| es <| rz ?_
     cases h
     exact en ⟨rfl, wk []⟩
    ·refine xt <| xs <| rz ?_
     refine es <| xr <| br <| er ?_
     cases h
     exact en ⟨rfl, wk []⟩
   ·refine xf <| xx <| ee ?_
    cases h
    exact en ⟨rfl, wk []⟩
  ·rcases e11 with e11 | e11
   ·try dsimp only at h ⊢
    refine br <| er ?_
    cases h
    exact en fr
   ·try dsimp only at h ⊢
    refine bh <| es <| xs <| rz ?_
    refine es <| xr ?_
    cases h
    exact en fr
def g_style_SameRows (a_0 : List A_Row) (b_1 : List A_Row) : Option (Bool) :=
 ((g_slEqR a_0 b_1).bind fun r7 => (some r7))
theorem a_style_SameRows {I : World → Prop} (hI : Stab I) {a_0 : List A_Row} {b_1 : List A_Row} {r : Bool} (h : g_style_SameRows a_0 b_1 = some r) : AFun Tryz.prog I 23 [.sl (a_0.map A_Row.d), .sl (b_1.map A_Row.d)] (.bool r) := by
 have dd := And.intro dd_EL <| And.intro dd_EJ <| And.intro dd_EA <| And.intro dd_EB dd_ED; have k := True.intro; have q := k; have rs := Tryz.results23
 unfold g_style_SameRows at h
 refine .en hI Tryz.func23 Tryz.ntmps23 ?_
 refine xs <| rz ?_
 refine es <| xs <| rK fun K6 RK6 hK6 gK6 => zz ?_
 obtain ⟨r7, h8, h⟩ := bs h
 refine cw (a_slEqR hI h8) <| zz ?_
 subst hK6 gK6
 refine es <| xr ?_
 cases h
 exact en fr
def g_law38_SegmentCosts_s1 (r42 : (List A_Event) × Int) (r48 : (List A_Event) × Int) (x65 : Int) : Option (Nx (Int) (Unit ⊕ Unit)) :=
 (if (decide (x65 < (r42.1.length : Int))) then ((((atI r42.1 x65).bind fun y201 => ((atI r48.1 x65).bind fun y203 => (if (y201.ID != y203.ID) then (some true) else (if ((y201.Span.In == y203.Span.In) && (y201.Span.Out == y203.Span.Out)) then (if (y201.Kind != y203.Kind) then (some true) else (if (y201.Region == ([] : List UInt8)) then (if (y201.Speaker == ([] : List UInt8)) then ((g_style_SameRows y201.Rows y203.Rows).bind fun r210 => (some (!r210))) else (some true)) else (some true))) else (some true))))) : Option (Bool)).bind fun v199 => (if v199 then (some (.out (.inl ()))) else (some (.go (IntKind.i64.wrap (x65 + 1)))))) else (some (.out (.inr ()))))
def g_law38_SegmentCosts (s_0 : A_Sh) (l_1 : List A_Part) : Option (Bool) :=
 ((g_law38_awake).bind fun r7 => (if r7 then ((g_law38_few s_0).bind fun r19 => ((subH l_1 (if 10 < (l_1.length : Int) then 10 else (l_1.length : Int))).bind fun z21 => ((g_sg_Cost r19 z21).bind fun r30 => ((g_ref38_Cost r19 z21).bind fun r36 => ((g_sg_Events r19 z21).bind fun r42 => ((g_ref38_Events r19 z21).bind fun r48 => (((if (r30.1 != r36.1) then (some true) else (if (r30.2 != r36.2) then (some true) else (if (r42.2 != r48.2) then (some true) else (some ((r42.1.length : Int) != (r48.1.length : Int)))))) : Option (Bool)).bind fun v54 => (if v54 then (some false) else ((iter (g_law38_SegmentCosts_s1 r42 r48) 0).bind fun e66 => (match e66 with | Sum.inl e66 => (some false) | Sum.inr (e66) => (some true))))))))))) else (some false)))
theorem a_law38_SegmentCosts {I : World → Prop} (hI : Stab I) (hShp : ∀ w, I w → Shp w) (hU8T : ∀ w, I w → U8T w) {s_0 : A_Sh} {l_1 : List A_Part} {r : Bool} (h : g_law38_SegmentCosts s_0 l_1 = some r) : AFun Tryz.prog I 5 [A_Sh.d s_0, .sl (l_1.map A_Part.d)] (.bool r) := by
 have dd := And.intro dd_EL <| And.intro dd_EJ <| And.intro dd_EA <| And.intro dd_EB dd_ED; have k := True.intro; have q := k; have rs := Tryz.results5
 unfold g_law38_SegmentCosts at h
 refine .en hI Tryz.func5 Tryz.ntmps5 ?_
 refine xs <| rz ?_
 refine es <| xs <| xs <| rK fun K6 RK6 hK6 gK6 => zz ?_
 obtain ⟨r7, h8, h⟩ := bs h
 refine cw (a_law38_awake hI hShp hU8T h8) <| zz ?_
 subst hK6 gK6
 refine es ?_
 obtain ⟨k,h⟩|⟨k,h⟩:=iK k h
 ·refine xf <| xk <| es <| xs <| rP hI fun K18 hK18 => rgP_cons <| zq ?_
  refine sP.foot (.cell 0 0 29) (fun _ => FootOK.ld rfl rfl rfl (by kernel_rfl) (by decide)) fd (by first | exact .inl (by first | rfl | decide) | exact .inr (by kernel_rfl)) <| rgP_cons <| zq ?_
  obtain ⟨r19, h20, h⟩ := bs h
  refine cP.intro (a_law38_few hI h20) fi (.ids []) (fun hN => FootOK.idsB [] (by rfl) rfl hN) fd (by first | exact .inl (by first | rfl | decide) | exact .inr (by kernel_rfl)) <| rgP_cons <| zq ?_
  refine sP.light rfl fd <| rgP_cons <| zq ?_
  refine sP.light rfl fd <| rgP_cons <| zq ?_
  refine sP.light rfl fd <| rgP_cons <| zq ?_
  refine sP.light rfl fd <| rgP_cons <| zq ?_
  obtain ⟨z21, h22, h⟩ := bind_some h
  obtain ⟨⟨h23, h24⟩, h25⟩ := subH_some h22
  have q := And.intro @h23 <| And.intro @h24 <| q
  try simp -implicitDefEqProofs only [vt, vm, sevalprocAttr, dd, k, q] at h25
  have q := And.intro @h25 <| q
  refine zq ?_
  refine sP.foot (.ids []) (fun hN => FootOK.idsB [] (by rfl) rfl hN) fd (by first | exact .inl (by first | rfl | decide) | exact .inr (by kernel_rfl)) <| rgP_cons <| zq ?_
  refine sP.pat 0 0 29 rfl rfl rfl <| rgP_cons <| zq ?_
  refine sP.light rfl fd <| zq ?_
  refine rgP_nil fk ?_
  subst hK18
  refine es <| xs <| rK fun K29 RK29 hK29 gK29 => zz ?_
  obtain ⟨r30, h31, h⟩ := bs h
  refine cw (a_sg_Cost hI hShp hU8T h31) <| zz ?_
  subst hK29 gK29
  refine es <| xs <| rK fun K35 RK35 hK35 gK35 => zz ?_
  obtain ⟨r36, h37, h⟩ := bs h
  refine cw (a_ref38_Cost hI h37) <| zz ?_
  subst hK35 gK35
  refine es <| xs <| rK fun K41 RK41 hK41 gK41 => zz ?_
  obtain ⟨r42, h43, h⟩ := bs h
  refine cw (a_sg_Events hI hShp hU8T h43) <| zz ?_
  subst hK41 gK41
  refine es <| xs <| rK fun K47 RK47 hK47 gK47 => zz ?_
  obtain ⟨r48, h49, h⟩ := bs h
  refine cw (a_ref38_Events hI h49) <| zz ?_
  subst hK47 gK47
  refine es <| xs ?_
  obtain ⟨v54, h59, h⟩ := bs h
  refine rb_cut (fun v54 => ⟨envL [(9, .sl (r42.1.map A_Event.d)), (11, .sl (r48.1.map A_Event.d)), (66, .bool v54)], heapL [], 0, 140⟩) h59 ?_ ?_
  ·clear h
   intro v54 h
   refine rK fun K55 RK55 hK55 gK55 => zz ?_
   obtain ⟨k,h⟩|⟨k,h⟩:=iK k h
   ·refine zz ?_
    subst hK55 gK55
    cases h
    exact en ⟨rfl, wk []⟩
   ·refine zz ?_
    obtain ⟨k,h⟩|⟨k,h⟩:=iK k h
    ·refine zz ?_
     subst hK55 gK55
     cases h
     exact en ⟨rfl, wk []⟩
    ·refine zz ?_
     obtain ⟨k,h⟩|⟨k,h⟩:=iK k h
     ·refine zz ?_
      subst hK55 gK55
      cases h
      exact en ⟨rfl, wk []⟩
     ·refine zz ?_
      subst hK55 gK55
      cases h
      exact en ⟨rfl, wk []⟩
  ·obtain ⟨k,h⟩|⟨k,h⟩:=iK k h
   ·refine xt <| xs <| rz ?_
    refine es <| xr <| er ?_
    cases h
    exact en fr
   ·refine xf <| xk <| es <| xs <| xs <| rz ?_
    refine es <| xb ?_
    obtain ⟨e66, h217, h⟩ := bs h
    refine rb_loop (fun x65 => ⟨envL [(9, .sl (r42.1.map A_Event.d)), (11, .sl (r48.1.map A_Event.d)), (68, .int .i64 (r42.1.length : Int)), (69, .int .i64 x65)], heapL [], 0, 140⟩) (fun w => match w with | Sum.inl _ => .ret | Sum.inr (_) => .exit 0) (fun w => match w with | Sum.inl e66 => ⟨envL [(4, .bool false)], heapL [], 0, 140⟩ | Sum.inr (e66) => ⟨envL [], heapL [], 0, 140⟩) h217 (wk []) (by intro w; rcases w with w | w <;> simp) ?_ ?_
    ·clear h
     intro x65 y h
     unfold g_law38_SegmentCosts_s1 at h
     refine xs <| rz ?_
     refine es <| xs ?_
     obtain ⟨k,h⟩|⟨k,h⟩:=iK k h
     ·refine xt <| xk <| es <| xs <| xb <| xs <| rz ?_
      refine es ?_
      obtain ⟨v199, h212, h⟩ := bs h
      refine rb_cut (fun v199 => ⟨envL [(9, .sl (r42.1.map A_Event.d)), (11, .sl (r48.1.map A_Event.d)), (68, .int .i64 (r42.1.length : Int)), (69, .int .i64 x65), (138, .bool v199)], heapL [], 0, 140⟩) h212 ?_ ?_
      ·clear h
       intro v199 h
       refine rD hI fun K200 RK200 hK200 gK200 => zz ?_
       obtain ⟨y201, q, h⟩ := bK q h
       refine zz ?_
       obtain ⟨y203, q, h⟩ := bK q h
       refine zz ?_
       obtain ⟨k,h⟩|⟨k,h⟩:=iK k h
       ·refine zz ?_
        subst hK200 gK200
        cases h
        exact en ⟨rfl, wk []⟩
       ·refine zz ?_
        obtain ⟨k,h⟩|⟨k,h⟩:=iK k h
        ·refine zz ?_
         obtain ⟨k,h⟩|⟨k,h⟩:=iK k h
         ·refine zz ?_
          subst hK200 gK200
          cases h
          exact en ⟨rfl, wk []⟩
         ·refine zz ?_
          obtain ⟨k,h⟩|⟨k,h⟩:=iK k h
          ·refine zz ?_
           obtain ⟨k,h⟩|⟨k,h⟩:=iK k h
           ·refine zz ?_
            obtain ⟨r210, h211, h⟩ := bs h
            refine cd (a_style_SameRows hI h211) <| zz ?_
            subst hK200 gK200
            cases h
            exact en ⟨rfl, wk []⟩
           ·refine zz ?_
            subst hK200 gK200
            cases h
            exact en ⟨rfl, wk []⟩
          ·refine zz ?_
           subst hK200 gK200
           cases h
           exact en ⟨rfl, wk []⟩
        ·refine zz ?_
         subst hK200 gK200
         cases h
         exact en ⟨rfl, wk []⟩
      ·obtain ⟨k,h⟩|⟨k,h⟩:=iK k h
       ·refine xt <| xs <| rz ?_
        refine es <| xr <| br <| er ?_
        cases h
        exact en ⟨rfl, wk []⟩
       ·refine xf <| xk <| bn <| es <| rz ?_
        cases h
        exact en ⟨rfl, wk []⟩
     ·refine xf <| xx <| ee ?_
      cases h
      exact en ⟨rfl, wk []⟩
    ·rcases e66 with e66 | e66
     ·try dsimp only at h ⊢
      refine br <| er ?_
      cases h
      exact en fr
     ·try dsimp only at h ⊢
      refine bh <| es <| xs <| rz ?_
      refine es <| xr ?_
      cases h
      exact en fr
 ·refine xt <| xs <| rz ?_
  refine es <| xr <| er ?_
  cases h
  exact en fr
theorem decL_4 (a b c d : UInt8) (t y : List UInt8) : decL (a :: b :: c :: d :: t ++ y) = decL (a :: b :: c :: d :: t) := by
 simp [decL]
theorem decL_app : ∀ (l y : List UInt8), (decL l).1 ≠ 65533 → decL (l ++ y) = decL l ∧ (decL l).2 ≤ l.length
 | [], y, h => absurd rfl h
 | [a], y, h => by
  have ha : a.toNat < 128 := by
   rcases Nat.lt_or_ge a.toNat 128 with q | q
   ·exact q
   ·exfalso; apply h
    have : ¬ a.toNat < 128 := by omega
    simp [decL, this]
  simp [decL, ha]
 | [a, b], y, h => by
  by_cases ha : a.toNat < 128
  ·simp [decL, ha]
  ·by_cases h1 : (a.toNat / 32 == 6 && b.toNat / 64 == 2) = true
   ·have h1' := h1
    simp only [Bool.and_eq_true, beq_iff_eq] at h1'
    simp only [decL, ha, List.cons_append, List.nil_append, List.getElem?_cons_zero, List.getD_cons_zero, h1, if_true, if_false, List.length_cons, List.length_nil]
    split <;> simp
   ·exfalso; apply h
    have h1 : (a.toNat / 32 == 6 && b.toNat / 64 == 2) = false := by simpa using h1
    simp [decL, ha, h1]
 | [a, b, c], y, h => by
  by_cases ha : a.toNat < 128
  ·simp [decL, ha]
  ·by_cases h1 : (a.toNat / 32 == 6 && b.toNat / 64 == 2) = true
   ·simp only [decL, ha, List.cons_append, List.nil_append, List.getElem?_cons_zero, List.getD_cons_zero, h1, if_true, if_false, List.length_cons, List.length_nil]
    split <;> simp
   ·by_cases h2 : (a.toNat / 16 == 14 && b.toNat / 64 == 2 && c.toNat / 64 == 2) = true
    ·simp only [decL, ha, List.cons_append, List.nil_append, List.getElem?_cons_zero, List.getElem?_cons_succ, List.getD_cons_zero, List.getD_cons_succ, h1, h2, if_true, if_false, List.length_cons, List.length_nil, Bool.false_eq_true]
     split <;> simp
    ·exfalso; apply h
     simp only [decL, ha, List.getElem?_cons_zero, List.getElem?_cons_succ, List.getElem?_nil, h1, h2, if_false, Bool.and_false, Bool.false_eq_true]
 | a :: b :: c :: d :: t, y, h => by
  refine ⟨decL_4 a b c d t y, ?_⟩
  simp only [decL, List.length_cons]
  repeat' split
  all_goals omega
theorem ixv_bad' : ixv 65533 = -1 := by unfold ixv; rw [ixv_bad]; rfl
theorem gv_dec {l : List UInt8} (h : l ≠ []) (hg : gv l = true) : (decL l).1 ≠ 65533 ∧ gv (l.drop (decL l).2) = true := by
 rw [gv_ne h] at hg
 simp only [Bool.and_eq_true, decide_eq_true_eq] at hg
 refine ⟨fun e => ?_, hg.2⟩
 have := hg.1
 rw [e] at this
 have e2 : ((65533 : Nat) : Int) = 65533 := rfl
 rw [e2, ixv_bad'] at this
 omega
theorem rnL_app : ∀ (n : Nat) (l y : List UInt8), l.length ≤ n → gv l = true → rnL (l ++ y) = rnL l ++ rnL y ∧ gv (l ++ y) = gv y := by
 intro n
 induction n with
 | zero =>
  intro l y h _
  have : l = [] := List.eq_nil_of_length_eq_zero (by omega)
  subst this
  simp [rnL_nil]
 | succ n ih =>
  intro l y h hg
  by_cases hl : l = []
  ·subst hl; simp [rnL_nil]
  ·obtain ⟨h1, h2⟩ := gv_dec hl hg
   obtain ⟨a1, a2⟩ := decL_app l y h1
   have hw := decL_wd hl
   have hpos := List.length_pos_iff.2 hl
   have hne : l ++ y ≠ [] := by simp [hl]
   obtain ⟨b1, b2⟩ := ih (l.drop (decL l).2) y (by simp; omega) h2
   have hdrop : (l ++ y).drop (decL l).2 = l.drop (decL l).2 ++ y := List.drop_append_of_le_length a2
   refine ⟨?_, ?_⟩
   ·rw [rnL_ne hne, rnL_ne hl, a1, hdrop, b1]; rfl
   ·rw [gv_ne hne, a1, hdrop, b2]
    rw [gv_ne hl] at hg
    simp only [Bool.and_eq_true] at hg
    rw [hg.1]; simp
theorem chL_app {x y : List UInt8} (hx : gv x = true) (hy : gv y = true) : chL (x ++ y) = chL x + chL y ∧ gv (x ++ y) = true := by
 obtain ⟨h1, h2⟩ := rnL_app x.length x y (Nat.le_refl _) hx
 unfold chL
 rw [h2, hx, hy, h1]
 simp
theorem chL_sp : chL [32] = 1 ∧ gv [32] = true := by
 have h0 : decL [32] = (32, 1) := by decide
 have h1 : ixv 32 = 0 := by unfold ixv; decide +kernel
 have hg : gv [32] = true := by
  rw [gv_ne (by simp), h0]
  have e : ((32 : Nat) : Int) = 32 := rfl
  dsimp only
  rw [e, h1]
  simp [gv_nil]
 refine ⟨?_, hg⟩
 unfold chL
 rw [hg, rnL_ne (by simp), h0]
 simp [rnL_nil]
theorem rpath_last {p : A_Pg} {i : Nat} {L : List Nat} (h : RPath p i L) (hi : i < p.Tokens.length) : L ≠ [] ∧ L.getLast? = some p.Tokens.length := by
 induction h with
 | nil => omega
 | @cons i j L h1 h2 h3 h4 ih =>
  refine ⟨by simp, ?_⟩
  by_cases hj : j < p.Tokens.length
  ·obtain ⟨a, b⟩ := ih hj
   rw [List.getLast?_cons_of_ne_nil a]
   exact b
  ·cases h4 with
   | nil => rfl
   | cons q1 q2 _ _ => omega
theorem total_s1 {p : A_Pg} (hn : p.Tokens.length ≤ 8) {G : List Nat} (hG : RPath p 0 G) (hl : G.length ≤ 4) : iter (g_rb_sheet_total_s1 (inl G)) (0, 0) = some (.inr ()) := by
 refine iter_of (fun x e => e = Sum.inr () ∧ ∃ (k i : Nat) (L : List Nat), x.2 = (k : Int) ∧ x.1 = (i : Int) ∧ k + L.length = G.length ∧ (inl G).drop k = inl L ∧ RPath p i L) (fun x => G.length - x.2.toNat) ?_ (x := (0, 0)) ⟨rfl, 0, 0, G, rfl, rfl, by omega, by simp, hG⟩ (by show G.length - 0 < _; omega)
 rintro ⟨a, x⟩ e ⟨rfl, k, i, L, hx, ha, hk, hd, hL⟩
 dsimp only at hx ha ⊢
 subst hx ha
 have hlen : (inl G).length = G.length := by simp [inl]
 unfold g_rb_sheet_total_s1
 dsimp only
 rw [hlen]
 cases hL with
 | nil =>
  right
  rw [if_neg (by simp at hk ⊢; omega)]
 | @cons _ j L h1 h2 h3 h4 =>
  left
  simp only [List.length_cons] at hk
  have hat : atI (inl G) (k : Int) = some (j : Int) := by
   have h0 : (inl G)[k]? = some (j : Int) := by
    have := congrArg (·[0]?) hd
    simpa [inl] using this
   exact getI h0
  rw [if_pos (by simp; omega), hat, wr64 (x := (k : Int) + 1) (by omega)]
  simp only [Option.bind_some]
  rw [if_neg (by simp; omega)]
  refine ⟨_, rfl, ⟨by first | rfl | trivial, k + 1, j, L, rfl, rfl, by omega, ?_, h4⟩, by dsimp only; omega⟩
  have := congrArg List.tail hd
  simpa [inl] using this
theorem total_s2 {p : A_Pg} (hv : Pv p) {G : List Nat} (hG : RPath p 0 G) (hl : G.length ≤ 4) : ∃ c, iter (g_rb_sheet_total_s2 (shP p (aimP p)) (inl G)) (0, 0, 0) = some (.inr c) := by
 have hn := hv.ok.toks
 have key : ∃ e, iter (g_rb_sheet_total_s2 (shP p (aimP p)) (inl G)) (0, 0, 0) = some e ∧ ∃ c : Int, e = .inr c := by
  refine iter_post (fun x => ∃ (k i : Nat) (L : List Nat), x.2.2 = (k : Int) ∧ x.1 = (i : Int) ∧ k + L.length = G.length ∧ (inl G).drop k = inl L ∧ RPath p i L ∧ 0 ≤ x.2.1 ∧ x.2.1 ≤ (k : Int) * 33000000) (fun x => G.length - x.2.2.toNat) (fun (e : Unit ⊕ Int) => ∃ c : Int, e = .inr c) (x := (0, 0, 0)) ⟨0, 0, G, rfl, rfl, by omega, by simp, hG, by simp, by simp⟩ (by show G.length - 0 < _; omega) ?_
  rintro ⟨a, sum, x⟩ ⟨k, i, L, hx, ha, hk, hd, hL, hs0, hs1⟩
  dsimp only at hx ha hs0 hs1 ⊢
  subst hx ha
  have hlen : (inl G).length = G.length := by simp [inl]
  unfold g_rb_sheet_total_s2
  dsimp only
  rw [hlen]
  cases hL with
  | nil =>
   right
   rw [if_neg (by simp at hk ⊢; omega)]
   exact ⟨_, rfl, _, rfl⟩
  | @cons _ j L h1 h2 h3 h4 =>
   left
   simp only [List.length_cons] at hk
   have hat : atI (inl G) (k : Int) = some (j : Int) := by
    have h0 : (inl G)[k]? = some (j : Int) := by
     have := congrArg (·[0]?) hd
     simpa [inl] using this
    exact getI h0
   have hc := cPr_le p i j
   rw [if_pos (by simp; omega), hat, wr64 (x := (k : Int) + 1) (by omega)]
   simp only [Option.bind_some]
   rw [fits_eq hv.ok _ (by omega) h2, h3]
   simp only [Option.bind_some, if_true]
   rw [cost_eq hv.ok h1 h2]
   simp only [Option.bind_some]
   rw [wr64 (x := sum + cPr p i j) (by omega)]
   refine ⟨_, rfl, ⟨k + 1, j, L, rfl, rfl, by omega, ?_, h4, by dsimp only; omega, by dsimp only; omega⟩, by dsimp only; omega⟩
   have := congrArg List.tail hd
   simpa [inl] using this
 obtain ⟨e, he, c, rfl⟩ := key
 exact ⟨c, he⟩
theorem rowCost_eq {p : A_Pg} (hv : Pv p) (hck : ckP p = 0) {G : List Nat} (hG : RPath p 0 G) (hl : (G.length : Int) ≤ p.Rows) : ∃ c, g_rb_Cost p (inl G) = some (c, 0) := by
 have hn := hv.ok.toks
 have hrw := hv.rows
 have hne : 0 < p.Tokens.length := List.length_pos_iff.2 hv.ne
 obtain ⟨l1, l2⟩ := rpath_last hG hne
 obtain ⟨c, hc⟩ := total_s2 hv hG (by omega)
 have hlen : (inl G).length = G.length := by simp [inl]
 have hpos := List.length_pos_iff.2 l1
 have hat : atI (inl G) (IntKind.i64.wrap ((G.length : Int) - 1)) = some (p.Tokens.length : Int) := by
  rw [wr64 (by omega), show ((G.length : Int) - 1) = ((G.length - 1 : Nat) : Int) by omega]
  refine getI ?_
  rw [List.getLast?_eq_getElem?] at l2
  simp [inl, l2]
 refine ⟨c, ?_⟩
 have hz : ((G.length : Int) == 0) = false := by simpa using (by omega : ¬ (G.length : Int) = 0)
 have hp : (shP p (aimP p)).p_ = p := rfl
 have hle : decide (p.Rows < (G.length : Int)) = false := by simp; omega
 simp only [g_rb_Cost, par_prog hv.ok, hck, open_eq hv.ok, g_rb_sheet_total, g_rb_sheet_n, hp, hlen, hz, hat, total_s1 hn hG (by omega), hle, hc, Option.bind_some, bne_self_eq_false, Bool.false_eq_true, if_false]
theorem wd4 : ∀ l : List UInt8, (decL l).2 ≤ 4
 | [] => by decide
 | a :: r => by
  unfold decL
  dsimp only
  repeat' split
  all_goals (first | decide | simp)
theorem len4 : ∀ (n : Nat) (l : List UInt8), l.length ≤ n → l.length ≤ 4 * (rnL l).length
 | 0, l, h => by omega
 | n + 1, l, h => by
  by_cases hl : l = []
  ·subst hl; simp
  ·have hw := decL_wd hl
   have h4 := wd4 l
   have hp := List.length_pos_iff.2 hl
   have ih := len4 n (l.drop (decL l).2) (by simp; omega)
   rw [rnL_ne hl, List.length_cons]
   simp only [List.length_drop] at ih
   omega
def joinT (l : List A_Token) : List UInt8 := Lib.join (l.map (·.Text)) [32]
def spT (l : List A_Token) : List UInt8 := (l.map fun t => t.Text ++ [32]).flatten
theorem tail_sp : ∀ l : List A_Token, Lib.joinTail [32] (l.map (·.Text)) ++ [32] = [32] ++ spT l
 | [] => rfl
 | t :: l => by
  have ih := tail_sp l
  simp only [Lib.joinTail, List.map_cons, List.flatten_cons, spT] at ih ⊢
  rw [List.append_assoc, ih]
  simp
theorem join_sp {l : List A_Token} (h : l ≠ []) : joinT l ++ [32] = spT l := by
 cases l with
 | nil => exact absurd rfl h
 | cons t l =>
  unfold joinT
  rw [List.map_cons, Lib.join_cons, List.append_assoc, tail_sp]
  simp [spT]
theorem tail_ch : ∀ l : List A_Token, (∀ t ∈ l, gv t.Text = true) → gv (Lib.joinTail [32] (l.map (·.Text))) = true ∧ chL (Lib.joinTail [32] (l.map (·.Text))) = (l.map fun t => chL t.Text).sum + l.length
 | [], _ => by
  have : gv ([] : List UInt8) = true := gv_nil
  refine ⟨this, ?_⟩
  show chL [] = _
  simp [chL, gv_nil, rnL_nil]
 | t :: l, h => by
  obtain ⟨a1, a2⟩ := tail_ch l (fun u hu => h u (by simp [hu]))
  have ht := h t (by simp)
  obtain ⟨s1, s2⟩ := chL_sp
  obtain ⟨b1, b2⟩ := chL_app s2 ht
  obtain ⟨c1, c2⟩ := chL_app b2 a1
  have e : Lib.joinTail [32] ((t :: l).map (·.Text)) = ([32] ++ t.Text) ++ Lib.joinTail [32] (l.map (·.Text)) := by simp [Lib.joinTail]
  rw [e]
  refine ⟨c2, ?_⟩
  rw [c1, b1, s1, a2]
  simp only [List.map_cons, List.sum_cons, List.length_cons]
  omega
theorem join_ch {l : List A_Token} (hne : l ≠ []) (h : ∀ t ∈ l, gv t.Text = true) : gv (joinT l) = true ∧ chL (joinT l) = (l.map fun t => chL t.Text).sum + l.length - 1 := by
 cases l with
 | nil => exact absurd rfl hne
 | cons t l =>
  obtain ⟨a1, a2⟩ := tail_ch l (fun u hu => h u (by simp [hu]))
  obtain ⟨b1, b2⟩ := chL_app (h t (by simp)) a1
  unfold joinT
  rw [List.map_cons, Lib.join_cons]
  refine ⟨b2, ?_⟩
  rw [b1, a2]
  simp only [List.map_cons, List.sum_cons, List.length_cons]
  omega
theorem gv_len {l : List UInt8} (h : gv l = true) {m : Int} (hm : chL l ≤ m) : (l.length : Int) ≤ 4 * m := by
 have := len4 l.length l (Nat.le_refl _)
 unfold chL at hm
 rw [if_pos h] at hm
 omega
def seg (p : A_Pg) (i j : Nat) : List A_Token := (p.Tokens.drop i).take (j - i)
theorem seg_len {p : A_Pg} {i j : Nat} (hj : j ≤ p.Tokens.length) : (seg p i j).length = j - i := by simp [seg]; omega
theorem seg_sum {p : A_Pg} {i j : Nat} (hij : i ≤ j) (hj : j ≤ p.Tokens.length) : ((seg p i j).map fun t => chL t.Text).sum = smP p j - smP p i := by
 rw [smP_sum p j hj, smP_sum p i (by omega)]
 have e : p.Tokens.take j = p.Tokens.take i ++ seg p i j := by
  unfold seg
  conv => lhs; rw [← List.take_append_drop i p.Tokens]
  rw [List.take_append, List.length_take, show min i p.Tokens.length = i by omega, List.take_take, show min j i = i by omega]
 rw [e, List.map_append, List.sum_append]
 omega
theorem seg_row {p : A_Pg} (hv : Pv p) {i j : Nat} (hij : i < j) (hj : j ≤ p.Tokens.length) : seg p i j ≠ [] ∧ gv (joinT (seg p i j)) = true ∧ chL (joinT (seg p i j)) = lnP p i j := by
 have hl := seg_len (p := p) (i := i) hj
 have hne : seg p i j ≠ [] := fun e => by rw [e] at hl; simp at hl; omega
 have hg : ∀ t ∈ seg p i j, gv t.Text = true := fun t ht => (hv.tok t (List.mem_of_mem_drop (List.mem_of_mem_take ht))).2.1
 obtain ⟨a, b⟩ := join_ch hne hg
 refine ⟨hne, a, ?_⟩
 rw [b, seg_sum (by omega) hj, hl]
 unfold lnP
 omega
def rowsT (p : A_Pg) : Nat → List Nat → List (List UInt8)
 | _, [] => []
 | i, j :: L => joinT (seg p i j) :: rowsT p j L
theorem rowsT_len (p : A_Pg) : ∀ (i : Nat) (L : List Nat), (rowsT p i L).length = L.length
 | _, [] => rfl
 | i, j :: L => by simp [rowsT, rowsT_len p j L]
theorem rows_sp {p : A_Pg} (hv : Pv p) : ∀ {i : Nat} {L : List Nat}, RPath p i L → ((rowsT p i L).map (· ++ [32])).flatten = spT (p.Tokens.drop i) := by
 intro i L h
 induction h with
 | nil => simp [rowsT, spT]
 | @cons i j L h1 h2 h3 h4 ih =>
  obtain ⟨a, _, _⟩ := seg_row hv h1 h2
  simp only [rowsT, List.map_cons, List.flatten_cons]
  rw [ih, join_sp a]
  have e : p.Tokens.drop i = seg p i j ++ p.Tokens.drop j := by
   unfold seg
   conv => lhs; rw [← List.take_append_drop (j - i) (p.Tokens.drop i)]
   rw [List.drop_drop, show i + (j - i) = j by omega]
  rw [e]
  simp [spT]
theorem rows_fit {p : A_Pg} (hv : Pv p) : ∀ {i : Nat} {L : List Nat}, RPath p i L → ∀ t ∈ rowsT p i L, gv t = true ∧ chL t ≤ p.Width := by
 intro i L h
 induction h with
 | nil => simp [rowsT]
 | @cons i j L h1 h2 h3 h4 ih =>
  intro t ht
  obtain ⟨_, b, c⟩ := seg_row hv h1 h2
  simp only [rowsT, List.mem_cons] at ht
  rcases ht with rfl | ht
  ·refine ⟨b, ?_⟩
   rw [c]
   unfold fitP at h3
   simpa using h3
  ·exact ih t ht
theorem join_prog {l : List A_Token} (hn : l.length ≤ 8) (hj : (joinT l).length ≤ 140737488355328) : g_token_Join l = some (joinT l) := by
 unfold g_token_Join
 rw [mkI_nat 16 l.length _ (by omega) (by omega)]
 simp only [Option.bind_some]
 have key : iter (g_token_Join_s1 l) (0, List.replicate l.length []) = some (l.map (·.Text)) := by
  refine iter_of (fun x e => e = l.map (·.Text) ∧ ∃ i : Nat, x.1 = (i : Int) ∧ i ≤ l.length ∧ x.2 = (l.take i).map (·.Text) ++ List.replicate (l.length - i) []) (fun x => l.length - x.1.toNat) ?_ (x := (0, _)) ⟨rfl, 0, rfl, by omega, by simp⟩ (by show l.length - 0 < _; omega)
  rintro ⟨x, m⟩ e ⟨rfl, i, hx, hi, hm⟩
  dsimp only at hx hm ⊢
  subst hx hm
  unfold g_token_Join_s1
  dsimp only
  have hA : ((l.take i).map (·.Text)).length = i := by simp; omega
  by_cases h : i < l.length
  ·left
   obtain ⟨k, hk⟩ : ∃ k, l.length - i = k + 1 := ⟨l.length - i - 1, by omega⟩
   rw [hk, List.replicate_succ, if_pos (by simpa using h), atI_nat h]
   simp only [Option.bind_some]
   rw [setI_nat _ (by simp; omega), wr64 (x := (i : Int) + 1) (by omega)]
   simp only [Option.bind_some]
   rw [atI_nat (by simp; omega)]
   simp only [Option.bind_some]
   refine ⟨_, rfl, ⟨by first | rfl | trivial, i + 1, rfl, h, ?_⟩, by dsimp only; omega⟩
   dsimp only
   rw [List.set_append_right _ _ (by omega), hA, Nat.sub_self, show l.length - (i + 1) = k by omega]
   simp only [List.map_take]
   rw [List.take_succ_eq_append_getElem (l := l.map (·.Text)) (by simpa using h)]
   simp
  ·right
   obtain rfl : i = l.length := by omega
   rw [if_neg (by simp)]
   simp
 rw [key]
 simp only [Option.bind_some, g_strings_Join]
 rw [if_pos ⟨by simp; omega, hj⟩]
 rfl
theorem rows_prog {p : A_Pg} (hv : Pv p) (hck : ckP p = 0) {G : List Nat} (hG : RPath p 0 G) (hl : (G.length : Int) ≤ p.Rows) : g_rb_Rows p (inl G) = some (rowsT p 0 G, 0) := by
 have hn := hv.ok.toks
 have hrw := hv.rows
 have hwid := hv.width
 obtain ⟨c, hc⟩ := rowCost_eq hv hck hG hl
 have hlen : (inl G).length = G.length := by simp [inl]
 have key : iter (g_rb_Rows_s1 p (inl G)) ([], 0, 0) = some (rowsT p 0 G) := by
  refine iter_of (fun x e => e = rowsT p 0 G ∧ ∃ (k i : Nat) (L : List Nat), x.2.2 = (k : Int) ∧ x.2.1 = (i : Int) ∧ k + L.length = G.length ∧ (inl G).drop k = inl L ∧ RPath p i L ∧ x.1 ++ rowsT p i L = rowsT p 0 G ∧ x.1.length = k) (fun x => G.length - x.2.2.toNat) ?_ (x := ([], 0, 0)) ⟨rfl, 0, 0, G, rfl, rfl, by omega, by simp, hG, rfl, rfl⟩ (by show G.length - 0 < _; omega)
  rintro ⟨out, a, x⟩ e ⟨rfl, k, i, L, hx, ha, hk, hd, hL, ho, hol⟩
  dsimp only at hx ha ho hol ⊢
  subst hx ha
  unfold g_rb_Rows_s1
  dsimp only
  rw [hlen]
  cases hL with
  | nil =>
   right
   rw [if_neg (by simp at hk ⊢; omega), ← ho]
   simp [rowsT]
  | @cons _ j L h1 h2 h3 h4 =>
   left
   simp only [List.length_cons] at hk
   have hat : atI (inl G) (k : Int) = some (j : Int) := by
    have h0 : (inl G)[k]? = some (j : Int) := by
     have := congrArg (·[0]?) hd
     simpa [inl] using this
    exact getI h0
   have hsub : subI p.Tokens (i : Int) (j : Int) = some (seg p i j) := by
    unfold subI seg
    rw [if_pos (by omega)]
    simp only [Int.toNat_natCast]
   obtain ⟨s1, s2, s3⟩ := seg_row hv h1 h2
   have hfit : lnP p i j ≤ p.Width := by unfold fitP at h3; simpa using h3
   have hb := gv_len s2 (m := 32) (by omega)
   rw [if_pos (by simp; omega), hat, wr64 (x := (k : Int) + 1) (by omega)]
   simp only [Option.bind_some]
   rw [hsub]
   simp only [Option.bind_some]
   rw [join_prog (by rw [seg_len h2]; omega) (by omega)]
   simp only [Option.bind_some]
   rw [if_pos (by omega)]
   refine ⟨_, rfl, ⟨by first | rfl | trivial, k + 1, j, L, rfl, rfl, by omega, ?_, h4, ?_, by simp [hol]⟩, by dsimp only; omega⟩
   ·have := congrArg List.tail hd
    simpa [inl] using this
   ·dsimp only
    rw [← ho]
    simp [rowsT]
 simp only [g_rb_Rows, hc, key, Option.bind_some, bne_self_eq_false, Bool.false_eq_true, if_false]
def rowE (t : List UInt8) : A_Row := ⟨[⟨t, ⟨0, false, false⟩, []⟩]⟩
theorem evRows_prog {R : List (List UInt8)} {z : Int} (hR : R.length ≤ 1000) : iter (g_sg_Events_s2 (R, z)) (0, []) = some (R.map rowE) := by
 refine iter_of (fun x e => e = R.map rowE ∧ ∃ i : Nat, x.1 = (i : Int) ∧ i ≤ R.length ∧ x.2 = (R.take i).map rowE) (fun x => R.length - x.1.toNat) ?_ (x := (0, _)) ⟨rfl, 0, rfl, by omega, by simp⟩ (by show R.length - 0 < _; omega)
 rintro ⟨x, m⟩ e ⟨rfl, i, hx, hi, hm⟩
 dsimp only at hx hm ⊢
 subst hx hm
 unfold g_sg_Events_s2
 dsimp only
 by_cases h : i < R.length
 ·left
  rw [if_pos (by simpa using h), atI_nat h, wr64 (x := (i : Int) + 1) (by omega)]
  simp only [Option.bind_some]
  rw [if_pos (by simp; omega)]
  refine ⟨_, rfl, ⟨by first | rfl | trivial, i + 1, rfl, h, ?_⟩, by dsimp only; omega⟩
  dsimp only
  rw [List.take_succ_eq_append_getElem h, List.map_append]
  rfl
 ·right
  obtain rfl : i = R.length := by omega
  rw [if_neg (by simp)]
  simp
def evR (s : A_Sh) (q : Nat × Nat) : List (List UInt8) := rowsT (psp s q.1 q.2) 0 ((pq s q.1 q.2).1.Breaks.map Int.toNat)
def evOf (s : A_Sh) (a : (Nat × Nat) × Nat) : A_Event := ⟨(a.2 : Int) + 1, (pq s a.1.1 a.1.2).1.Span, [], 1, [], (evR s a.1).map rowE⟩
theorem inl_nat (G : List Nat) : (inl G).map Int.toNat = G := by
 unfold inl
 rw [List.map_map]
 exact (List.map_congr_left (fun x _ => by simp)).trans (List.map_id G)
theorem part_rows {s : A_Sh} (hs : Sv s) {q : Nat × Nat} (h1 : q.1 < q.2) (h2 : q.2 ≤ s.Words.length) (ho : okE s q.1 q.2 = true) :
  g_rb_Rows (psp s q.1 q.2) (pq s q.1 q.2).1.Breaks = some (evR s q, 0) ∧ ((evR s q).length : Int) ≤ s.House.Rows ∧ (evR s q).length ≤ 4 ∧ (∀ t ∈ evR s q, gv t = true ∧ chL t ≤ s.House.Cols) ∧ ((evR s q).map (· ++ [32])).flatten = spT (tkP s.Words q.1 q.2) := by
 obtain ⟨_, _, _, h⟩ := pq_eq hs h1 h2
 have h0 : (pq s q.1 q.2).2.2 = 0 := by simpa [okE] using ho
 obtain ⟨_, _, _, _, _, ⟨ck, G, g1, g2, g3⟩, _⟩ := h h0
 have hv := ckP_0 (psp_ok hs.ok (i := q.1) h2) ck
 have e : evR s q = rowsT (psp s q.1 q.2) 0 G := by unfold evR; rw [g1, inl_nat]
 have hr : 1 ≤ s.House.Rows ∧ s.House.Rows ≤ 4 := hv.rows
 rw [e, g1]
 refine ⟨rows_prog hv ck g2 g3, by rw [rowsT_len]; exact g3, by rw [rowsT_len]; omega, rows_fit hv g2, ?_⟩
 rw [rows_sp hv g2]
 rfl
theorem sub_tk {s : A_Sh} {i j : Nat} (hij : i < j) (hj : j ≤ s.Words.length) : subI (tks s.Words) (i : Int) (j : Int) = some (tkP s.Words i j) := by
 have := tks_len s.Words
 unfold subI tkP
 rw [if_pos (by omega)]
 simp only [Int.toNat_natCast]
theorem evs_prog {s : A_Sh} (hs : Sv s) {L : List (Nat × Nat)} {c e : Int} (hn : L.length ≤ 10) (hL : ∀ q ∈ L, q.1 < q.2 ∧ q.2 ≤ s.Words.length ∧ okE s q.1 q.2 = true) :
  iter (g_sg_Events_s1 s (L.map (fun q => (pq s q.1 q.2).1), c, e) (tks s.Words)) ([], 0) = some (L.zipIdx.map (evOf s)) := by
 refine iter_of (fun x e => e = L.zipIdx.map (evOf s) ∧ ∃ i : Nat, x.2 = (i : Int) ∧ i ≤ L.length ∧ x.1 = (L.zipIdx.take i).map (evOf s)) (fun x => L.length - x.2.toNat) ?_ (x := (_, 0)) ⟨rfl, 0, rfl, by omega, by simp⟩ (by show L.length - 0 < _; omega)
 rintro ⟨m, x⟩ e ⟨rfl, i, hx, hi, hm⟩
 dsimp only at hx hm ⊢
 subst hx hm
 unfold g_sg_Events_s1
 dsimp only
 rw [List.length_map]
 by_cases h : i < L.length
 ·left
  obtain ⟨a1, a2, a3⟩ := hL L[i] (List.getElem_mem h)
  obtain ⟨b1, b2, b3, b4, b5⟩ := part_rows hs a1 a2 a3
  obtain ⟨_, _, _, hp⟩ := pq_eq hs a1 a2
  obtain ⟨c1, c2, _⟩ := hp (by simpa [okE] using a3)
  rw [if_pos (by simpa using h), show atI (L.map (fun q => (pq s q.1 q.2).1)) (i : Int) = some (pq s L[i].1 L[i].2).1 by rw [atI_nat (by simpa using h)]; simp, wr64 (x := (i : Int) + 1) (by omega)]
  simp only [Option.bind_some]
  rw [c1, c2, sub_tk a1 a2]
  simp only [Option.bind_some, g_sg_paragraph]
  rw [show (A_Pg.mk (tkP s.Words L[i].1 L[i].2) s.House.Cols s.House.Rows s.Table) = psp s L[i].1 L[i].2 from rfl, b1]
  simp only [Option.bind_some]
  rw [evRows_prog (by omega)]
  simp only [Option.bind_some]
  rw [if_pos (by simp; omega)]
  refine ⟨_, rfl, ⟨by first | rfl | trivial, i + 1, rfl, h, ?_⟩, by dsimp only; omega⟩
  dsimp only
  rw [List.take_succ_eq_append_getElem (by simpa using h), List.map_append]
  simp [evOf]
 ·right
  obtain rfl : i = L.length := by omega
  rw [if_neg (by simp)]
  rw [List.take_of_length_le (by simp)]
theorem joinT_app {x y : List A_Token} (h : x ≠ []) : joinT (x ++ y) = joinT x ++ Lib.joinTail [32] (y.map (·.Text)) := by
 cases x with
 | nil => exact absurd rfl h
 | cons a x =>
  unfold joinT
  rw [List.cons_append, List.map_cons, List.map_cons, Lib.join_cons, Lib.join_cons, List.map_append]
  simp [Lib.joinTail]
theorem joinT_take (l : List A_Token) (k : Nat) : (joinT (l.take k)).length ≤ (joinT l).length := by
 by_cases h : l.take k = []
 ·rw [h]; exact Nat.zero_le _
 ·have e := joinT_app (y := l.drop k) h
  rw [List.take_append_drop] at e
  rw [e, List.length_append]
  omega
theorem ref_join {l : List A_Token} (hn : l.length ≤ 8) (hj : (joinT l).length ≤ 1000) : g_ref34_Join l = some (joinT l) := by
 have key : iter (g_ref34_Join_s1 l) ([], 0) = some (joinT l) := by
  refine iter_of (fun x e => e = joinT l ∧ ∃ i : Nat, x.2 = (i : Int) ∧ i ≤ l.length ∧ x.1 = joinT (l.take i)) (fun x => l.length - x.2.toNat) ?_ (x := ([], 0)) ⟨rfl, 0, rfl, by omega, rfl⟩ (by show l.length - 0 < _; omega)
  rintro ⟨m, x⟩ e ⟨rfl, i, hx, hi, hm⟩
  dsimp only at hx hm ⊢
  subst hx hm
  unfold g_ref34_Join_s1
  dsimp only
  by_cases h : i < l.length
  ·left
   have hsn : l.take (i + 1) = l.take i ++ [l[i]] := List.take_succ_eq_append_getElem h
   have hle := joinT_take l (i + 1)
   rw [if_pos (by simpa using h), atI_nat h]
   simp only [Option.bind_some]
   by_cases h0 : 0 < i
   ·have hne : l.take i ≠ [] := fun e => by
     have := congrArg List.length e
     rw [List.length_take, List.length_nil] at this; omega
    have hj2 : joinT (l.take (i + 1)) = (joinT (l.take i) ++ [32]) ++ l[i].Text := by
     rw [hsn, joinT_app hne]
     simp [Lib.joinTail]
    have hlen := congrArg List.length hj2
    simp only [List.length_append, List.length_cons, List.length_nil] at hlen
    rw [if_pos (by simpa using h0)]
    rw [if_pos (show (joinT (l.take i)).length + 1 ≤ 9223372036854775807 by omega), if_pos (show (joinT (l.take i)).length + 1 + l[i].Text.length ≤ 9223372036854775807 by omega), wr64 (x := (i : Int) + 1) (by omega)]
    exact ⟨_, rfl, ⟨by first | rfl | trivial, i + 1, rfl, h, hj2.symm⟩, by dsimp only; omega⟩
   ·obtain rfl : i = 0 := by omega
    have hj2 : joinT (l.take (0 + 1)) = l[0].Text := by
     rw [hsn]
     show Lib.join [l[0].Text] [32] = _
     rw [Lib.join_one]
    have hlen := congrArg List.length hj2
    have h00 : joinT (l.take 0) = [] := rfl
    rw [if_neg (by simp), h00, List.nil_append, if_pos (by rw [List.length_nil]; omega), wr64 (x := ((0 : Nat) : Int) + 1) (by omega)]
    exact ⟨_, rfl, ⟨by first | rfl | trivial, 0 + 1, rfl, h, hj2.symm⟩, by dsimp only; omega⟩
  ·right
   obtain rfl : i = l.length := by omega
   rw [if_neg (by simp), List.take_length]
 unfold g_ref34_Join
 rw [key]
 rfl
theorem inl_at {G : List Nat} {k j : Nat} {L : List Nat} (hd : (inl G).drop k = inl (j :: L)) : atI (inl G) (k : Int) = some (j : Int) := by
 have h0 : (inl G)[k]? = some (j : Int) := by
  have := congrArg (·[0]?) hd
  simpa [inl] using this
 exact getI h0
theorem refCost_s1 {p : A_Pg} (hn : p.Tokens.length ≤ 8) {G : List Nat} (hG : RPath p 0 G) (hl : G.length ≤ 4) : iter (g_ref36_Cost_s1 p (inl G)) (0, 0) = some (.inr (p.Tokens.length : Int)) := by
 refine iter_of (fun x e => e = Sum.inr (p.Tokens.length : Int) ∧ ∃ (k i : Nat) (L : List Nat), x.2 = (k : Int) ∧ x.1 = (i : Int) ∧ k + L.length = G.length ∧ (inl G).drop k = inl L ∧ RPath p i L) (fun x => G.length - x.2.toNat) ?_ (x := (0, 0)) ⟨rfl, 0, 0, G, rfl, rfl, by omega, by simp, hG⟩ (by show G.length - 0 < _; omega)
 rintro ⟨a, x⟩ e ⟨rfl, k, i, L, hx, ha, hk, hd, hL⟩
 dsimp only at hx ha ⊢
 subst hx ha
 have hlen : (inl G).length = G.length := by simp [inl]
 unfold g_ref36_Cost_s1
 dsimp only
 rw [hlen]
 cases hL with
 | nil =>
  right
  rw [if_neg (by simp at hk ⊢; omega)]
 | @cons _ j L h1 h2 h3 h4 =>
  left
  simp only [List.length_cons] at hk
  rw [if_pos (by simp; omega), inl_at hd, wr64 (x := (k : Int) + 1) (by omega)]
  simp only [Option.bind_some]
  rw [if_neg (by simp; omega), if_neg (by simp; omega)]
  refine ⟨_, rfl, ⟨by first | rfl | trivial, k + 1, j, L, rfl, rfl, by omega, ?_, h4⟩, by dsimp only; omega⟩
  have := congrArg List.tail hd
  simpa [inl] using this
theorem refCost_s2 {p : A_Pg} (hv : Pv p) {G : List Nat} (hG : RPath p 0 G) (hl : G.length ≤ 4) : ∃ c, iter (g_ref36_Cost_s2 p (inl G)) (0, 0, 0) = some (.inr c) := by
 have hn := hv.ok.toks
 have key : ∃ e, iter (g_ref36_Cost_s2 p (inl G)) (0, 0, 0) = some e ∧ ∃ c : Int, e = .inr c := by
  refine iter_post (fun x => ∃ (k i : Nat) (L : List Nat), x.2.2 = (k : Int) ∧ x.1 = (i : Int) ∧ k + L.length = G.length ∧ (inl G).drop k = inl L ∧ RPath p i L ∧ 0 ≤ x.2.1 ∧ x.2.1 ≤ (k : Int) * 33000000) (fun x => G.length - x.2.2.toNat) (fun (e : Unit ⊕ Int) => ∃ c : Int, e = .inr c) (x := (0, 0, 0)) ⟨0, 0, G, rfl, rfl, by omega, by simp, hG, by simp, by simp⟩ (by show G.length - 0 < _; omega) ?_
  rintro ⟨a, sum, x⟩ ⟨k, i, L, hx, ha, hk, hd, hL, hs0, hs1⟩
  dsimp only at hx ha hs0 hs1 ⊢
  subst hx ha
  have hlen : (inl G).length = G.length := by simp [inl]
  unfold g_ref36_Cost_s2
  dsimp only
  rw [hlen]
  cases hL with
  | nil =>
   right
   rw [if_neg (by simp at hk ⊢; omega)]
   exact ⟨_, rfl, _, rfl⟩
  | @cons _ j L h1 h2 h3 h4 =>
   left
   simp only [List.length_cons] at hk
   have hc := cPr_le p i j
   rw [if_pos (by simp; omega), inl_at hd, wr64 (x := (k : Int) + 1) (by omega)]
   simp only [Option.bind_some]
   rw [refFits_eq hv.ok h1 h2, h3]
   simp only [Option.bind_some, if_true]
   rw [refRow_eq hv.ok h1 h2]
   simp only [Option.bind_some]
   rw [wr64 (x := sum + cPr p i j) (by omega)]
   refine ⟨_, rfl, ⟨k + 1, j, L, rfl, rfl, by omega, ?_, h4, by dsimp only; omega, by dsimp only; omega⟩, by dsimp only; omega⟩
   have := congrArg List.tail hd
   simpa [inl] using this
 obtain ⟨e, he, c, rfl⟩ := key
 exact ⟨c, he⟩
theorem refRows {p : A_Pg} (hv : Pv p) (hck : ckP p = 0) {G : List Nat} (hG : RPath p 0 G) (hl : (G.length : Int) ≤ p.Rows) : g_ref36_Rows p (inl G) = some (rowsT p 0 G, 0) := by
 have hn := hv.ok.toks
 have hrw := hv.rows
 have hwid := hv.width
 have hlen : (inl G).length = G.length := by simp [inl]
 have hc : ∃ c, g_ref36_Cost p (inl G) = some (c, 0) := by
  obtain ⟨c, hc⟩ := refCost_s2 hv hG (by omega)
  refine ⟨c, ?_⟩
  unfold g_ref36_Cost
  rw [par_ref hv.ok, hck]
  simp only [Option.bind_some, bne_self_eq_false, Bool.false_eq_true, if_false]
  rw [refCost_s1 hn hG (by omega)]
  simp only [Option.bind_some, bne_self_eq_false, Bool.false_eq_true, if_false]
  rw [hlen, if_neg (by simp; omega), hc]
  rfl
 obtain ⟨c, hc⟩ := hc
 have key : iter (g_ref36_Rows_s1 p (inl G)) (0, 0, []) = some (rowsT p 0 G) := by
  refine iter_of (fun x e => e = rowsT p 0 G ∧ ∃ (k i : Nat) (L : List Nat), x.2.1 = (k : Int) ∧ x.1 = (i : Int) ∧ k + L.length = G.length ∧ (inl G).drop k = inl L ∧ RPath p i L ∧ x.2.2 ++ rowsT p i L = rowsT p 0 G ∧ x.2.2.length = k) (fun x => G.length - x.2.1.toNat) ?_ (x := (0, 0, [])) ⟨rfl, 0, 0, G, rfl, rfl, by omega, by simp, hG, by simp, rfl⟩ (by show G.length - 0 < _; omega)
  rintro ⟨a, x, out⟩ e ⟨rfl, k, i, L, hx, ha, hk, hd, hL, ho, hol⟩
  dsimp only at hx ha ho hol ⊢
  subst hx ha
  unfold g_ref36_Rows_s1
  dsimp only
  rw [hlen]
  cases hL with
  | nil =>
   right
   rw [if_neg (by simp at hk ⊢; omega), ← ho]
   simp [rowsT]
  | @cons _ j L h1 h2 h3 h4 =>
   left
   simp only [List.length_cons] at hk
   have hsub : subI p.Tokens (i : Int) (j : Int) = some (seg p i j) := by
    unfold subI seg
    rw [if_pos (by omega)]
    simp only [Int.toNat_natCast]
   obtain ⟨s1, s2, s3⟩ := seg_row hv h1 h2
   have hfit : lnP p i j ≤ p.Width := by unfold fitP at h3; simpa using h3
   have hb := gv_len s2 (m := 32) (by omega)
   rw [if_pos (by simp; omega), inl_at hd, wr64 (x := (k : Int) + 1) (by omega)]
   simp only [Option.bind_some]
   rw [hsub]
   simp only [Option.bind_some]
   rw [ref_join (by rw [seg_len h2]; omega) (by omega)]
   simp only [Option.bind_some]
   rw [if_pos (by omega)]
   refine ⟨_, rfl, ⟨by first | rfl | trivial, k + 1, j, L, rfl, rfl, by omega, ?_, h4, ?_, by simp [hol]⟩, by dsimp only; omega⟩
   ·have := congrArg List.tail hd
    simpa [inl] using this
   ·dsimp only
    rw [← ho]
    simp [rowsT]
 unfold g_ref36_Rows
 rw [hc]
 simp only [Option.bind_some, bne_self_eq_false, Bool.false_eq_true, if_false]
 rw [key]
 rfl
theorem ref_of {t : List UInt8} (h : t ≠ []) (hl : t.length ≤ 1000) : g_ref09_Of t ⟨0, false, false⟩ = some (rowE t) := by
 have hb : (t == ([] : List UInt8)) = false := by simpa using h
 have key : iter (g_ref09_Norm_s1 ⟨[⟨t, ⟨0, false, false⟩, []⟩]⟩) ([], 0) = some [⟨t, ⟨0, false, false⟩, []⟩] := by
  refine iter_of (fun x e => e = [⟨t, ⟨0, false, false⟩, []⟩] ∧ (x = ([], 0) ∨ x = ([⟨t, ⟨0, false, false⟩, []⟩], 1))) (fun x => 2 - x.2.toNat) ?_ (x := ([], 0)) ⟨rfl, .inl rfl⟩ (by decide)
  rintro ⟨m, x⟩ e ⟨rfl, h1 | h1⟩
  ·cases h1
   left
   unfold g_ref09_Norm_s1
   dsimp only
   rw [if_pos (by simp), show atI [(⟨t, ⟨0, false, false⟩, []⟩ : A_Run)] 0 = some ⟨t, ⟨0, false, false⟩, []⟩ from rfl]
   simp only [Option.bind_some, hb, Bool.false_eq_true, if_false, List.length_nil]
   rw [if_neg (by simp)]
   simp only [Option.bind_some, Bool.false_eq_true, if_false]
   rw [if_pos (by omega), Int.zero_add, wr64 (x := 1) (by omega), List.nil_append]
   exact ⟨_, rfl, ⟨by first | rfl | trivial, .inr rfl⟩, by show 2 - 1 < 2 - 0; omega⟩
  ·cases h1
   right
   unfold g_ref09_Norm_s1
   dsimp only
   rw [if_neg (by simp)]
 unfold g_ref09_Of g_ref09_Norm
 rw [key]
 rfl
theorem refEvRows {R : List (List UInt8)} {z : Int} (hR : R.length ≤ 1000) (h : ∀ t ∈ R, t ≠ [] ∧ t.length ≤ 1000) : iter (g_ref38_Events_s2 (R, z)) (0, []) = some (R.map rowE) := by
 refine iter_of (fun x e => e = R.map rowE ∧ ∃ i : Nat, x.1 = (i : Int) ∧ i ≤ R.length ∧ x.2 = (R.take i).map rowE) (fun x => R.length - x.1.toNat) ?_ (x := (0, _)) ⟨rfl, 0, rfl, by omega, by simp⟩ (by show R.length - 0 < _; omega)
 rintro ⟨x, m⟩ e ⟨rfl, i, hx, hi, hm⟩
 dsimp only at hx hm ⊢
 subst hx hm
 unfold g_ref38_Events_s2
 dsimp only
 by_cases hh : i < R.length
 ·left
  obtain ⟨a, b⟩ := h R[i] (List.getElem_mem hh)
  rw [if_pos (by simpa using hh), atI_nat hh, wr64 (x := (i : Int) + 1) (by omega)]
  simp only [Option.bind_some]
  rw [ref_of a b]
  simp only [Option.bind_some]
  rw [if_pos (by simp; omega)]
  refine ⟨_, rfl, ⟨by first | rfl | trivial, i + 1, rfl, hh, ?_⟩, by dsimp only; omega⟩
  dsimp only
  rw [List.take_succ_eq_append_getElem hh, List.map_append]
  rfl
 ·right
  obtain rfl : i = R.length := by omega
  rw [if_neg (by simp), List.take_length]
theorem rows_ne {p : A_Pg} (hv : Pv p) : ∀ {i : Nat} {L : List Nat}, RPath p i L → ∀ t ∈ rowsT p i L, t ≠ [] := by
 intro i L h
 induction h with
 | nil => simp [rowsT]
 | @cons i j L h1 h2 h3 h4 ih =>
  intro t ht
  simp only [rowsT, List.mem_cons] at ht
  rcases ht with rfl | ht
  ·obtain ⟨a, _, _⟩ := seg_row hv h1 h2
   cases hs : seg p i j with
   | nil => exact absurd hs a
   | cons u U =>
    have hu : u ∈ p.Tokens := List.mem_of_mem_drop (List.mem_of_mem_take (by unfold seg at hs; rw [hs]; simp))
    have hne := (hv.tok u hu).1
    unfold joinT
    rw [List.map_cons, Lib.join_cons]
    intro e
    exact hne (List.append_eq_nil_iff.1 e).1
  ·exact ih t ht
theorem ref_chain {s : A_Sh} (hn : s.Words.length ≤ 8) (l : List A_Part) (hl : l.length ≤ 10) : iter (g_ref38_Cost_s1 s l) (0, 0) = some (match ckCh s.Words.length 0 l with | none => .inl () | some a => .inr a) := by
 refine iter_of (fun x e => e = (match ckCh s.Words.length 0 l with | none => .inl () | some a => .inr a) ∧ ∃ i : Nat, x.2 = (i : Int) ∧ i ≤ l.length ∧ ckCh s.Words.length x.1 (l.drop i) = ckCh s.Words.length 0 l) (fun x => l.length - x.2.toNat) ?_ (x := (0, 0)) ⟨rfl, 0, rfl, by omega, by simp⟩ (by show l.length - 0 < _; omega)
 rintro ⟨a, x⟩ e ⟨rfl, i, hx, hi, hc⟩
 dsimp only at hx hc ⊢
 subst hx
 unfold g_ref38_Cost_s1
 dsimp only
 by_cases h : i < l.length
 ·rw [List.drop_eq_getElem_cons h] at hc
  rw [ckCh_cons] at hc
  rw [if_pos (by simpa using h), atI_nat h, wr64 (x := (i : Int) + 1) (by omega)]
  simp only [Option.bind_some]
  generalize l[i] = p at hc ⊢
  have e1 : (if (p.From != a) = true then some true else if decide (p.To ≤ a) = true then some true else some (decide ((s.Words.length : Int) < p.To)) : Option Bool) = some (decide (p.From ≠ a ∨ p.To ≤ p.From ∨ (s.Words.length : Int) < p.To)) := by
   by_cases q1 : p.From = a
   ·by_cases q2 : p.To ≤ a
    ·simp [q1, q2]
    ·simp [q1, q2]
   ·simp [q1]
  rw [e1]
  simp only [Option.bind_some]
  by_cases hq : p.From ≠ a ∨ p.To ≤ p.From ∨ (s.Words.length : Int) < p.To
  ·right
   rw [if_pos hq] at hc
   rw [if_pos (by rw [decide_eq_true_iff]; exact hq), ← hc]
  ·left
   rw [if_neg hq] at hc
   rw [if_neg (by rw [decide_eq_true_iff]; exact hq)]
   exact ⟨_, rfl, ⟨by first | rfl | trivial, i + 1, rfl, h, hc⟩, by dsimp only; omega⟩
 ·right
  rw [List.drop_eq_nil_of_le (by omega)] at hc
  rw [if_neg (by simpa using h), ← hc]
  rfl
def csG (sum : Int) : Int ⊕ (List A_Part × Int) → Int ⊕ Int
 | .inl e => .inl e
 | .inr r => .inr (sum + r.2)
theorem csG_cons (s : A_Sh) (sum : Int) (i j : Nat) (L : List (Nat × Nat)) (h : okE s i j = true) : csG sum (csL s ((i, j) :: L)) = csG (sum + csq s i j) (csL s L) := by
 rw [csL_cons, if_pos h]
 cases csL s L with
 | inl e => rfl
 | inr r => simp [csG, Int.add_assoc]
theorem inP_at {l : List A_Part} {L : List (Nat × Nat)} (hl : l.map (fun p => (p.From, p.To)) = inP L) {i : Nat} (hli : i < l.length) (h : i < L.length) : l[i].From = (L[i].1 : Int) ∧ l[i].To = (L[i].2 : Int) := by
 have a : (l.map (fun p => (p.From, p.To)))[i]'(by simpa using hli) = (inP L)[i]'(by simpa [inP] using h) := by
  congr 1
 have hp : (l[i].From, l[i].To) = ((L[i].1 : Int), (L[i].2 : Int)) := by simpa [inP] using a
 injection hp with hp1 hp2
 exact ⟨hp1, hp2⟩
theorem ref_sum {s : A_Sh} (hs : Sv s) (hck : g_ref38_Check s = some 0) {l : List A_Part} {L : List (Nat × Nat)} (hl : l.map (fun p => (p.From, p.To)) = inP L) (hL : ∀ q ∈ L, q.1 < q.2 ∧ q.2 ≤ s.Words.length) (hn : L.length ≤ 10) :
  iter (g_ref38_Cost_s2 s l) (0, 0) = some (csG 0 (csL s L)) := by
 have hll : l.length = L.length := by
  have := congrArg List.length hl
  simpa [inP] using this
 refine iter_of (fun x e => e = csG 0 (csL s L) ∧ ∃ i : Nat, x.2 = (i : Int) ∧ i ≤ L.length ∧ csG x.1 (csL s (L.drop i)) = csG 0 (csL s L) ∧ 0 ≤ x.1 ∧ x.1 ≤ (i : Int) * 30000000000000) (fun x => L.length - x.2.toNat) ?_ (x := (0, 0)) ⟨rfl, 0, rfl, by omega, by simp, by simp, by simp⟩ (by show L.length - 0 < _; omega)
 rintro ⟨sum, x⟩ e ⟨rfl, i, hx, hi, hc, h0, h1⟩
 dsimp only at hx hc h0 h1 ⊢
 subst hx
 unfold g_ref38_Cost_s2
 dsimp only
 rw [hll]
 by_cases h : i < L.length
 ·have hli : i < l.length := by omega
  obtain ⟨hp1, hp2⟩ := inP_at hl hli h
  have hq := hL _ (List.getElem_mem h)
  obtain ⟨_, q1, q3, q4⟩ := pq_eq hs hq.1 hq.2
  rw [List.drop_eq_getElem_cons h] at hc
  rw [if_pos (by simpa using h), atI_nat hli]
  simp only [Option.bind_some]
  rw [hp1, hp2, q1 hck]
  simp only [Option.bind_some]
  by_cases he : (pq s L[i].1 L[i].2).2.2 = 0
  ·left
   have hok : okE s L[i].1 L[i].2 = true := by simp [okE, he]
   have q5 := q4 he
   have hb : (pq s L[i].1 L[i].2).2.1 = csq s L[i].1 L[i].2 := rfl
   have hb2 : 0 ≤ csq s L[i].1 L[i].2 ∧ csq s L[i].1 L[i].2 ≤ 30000000000000 := ⟨q5.2.2.1, q5.2.2.2.1⟩
   rw [show L[i] = (L[i].1, L[i].2) from rfl, csG_cons s sum _ _ _ hok] at hc
   rw [if_neg (by simpa using he), hb, wr64 (x := sum + csq s L[i].1 L[i].2) (by omega), wr64 (x := (i : Int) + 1) (by omega)]
   exact ⟨_, rfl, ⟨by first | rfl | trivial, i + 1, rfl, h, hc, by dsimp only; omega, by dsimp only; omega⟩, by dsimp only; omega⟩
  ·right
   have hok : okE s L[i].1 L[i].2 = false := by simp [okE, he]
   rw [if_pos (by simpa using he), ← hc]
   rw [csL_cons, if_neg (by rw [hok]; simp)]
   rfl
 ·right
  rw [List.drop_eq_nil_of_le (by omega)] at hc
  rw [if_neg (by simpa using h), ← hc]
  simp [csL, csG]
theorem refEvs {s : A_Sh} (hs : Sv s) (hck : g_ref38_Check s = some 0) {l : List A_Part} {L : List (Nat × Nat)} (hl : l.map (fun p => (p.From, p.To)) = inP L) (hn : L.length ≤ 10) (hL : ∀ q ∈ L, q.1 < q.2 ∧ q.2 ≤ s.Words.length ∧ okE s q.1 q.2 = true) :
  iter (g_ref38_Events_s1 s l) (0, []) = some (L.zipIdx.map (evOf s)) := by
 have hll : l.length = L.length := by
  have := congrArg List.length hl
  simpa [inP] using this
 refine iter_of (fun x e => e = L.zipIdx.map (evOf s) ∧ ∃ i : Nat, x.1 = (i : Int) ∧ i ≤ L.length ∧ x.2 = (L.zipIdx.take i).map (evOf s)) (fun x => L.length - x.1.toNat) ?_ (x := (0, _)) ⟨rfl, 0, rfl, by omega, by simp⟩ (by show L.length - 0 < _; omega)
 rintro ⟨x, m⟩ e ⟨rfl, i, hx, hi, hm⟩
 dsimp only at hx hm ⊢
 subst hx hm
 unfold g_ref38_Events_s1
 dsimp only
 rw [hll]
 by_cases h : i < L.length
 ·left
  have hli : i < l.length := by omega
  obtain ⟨hp1, hp2⟩ := inP_at hl hli h
  obtain ⟨a1, a2, a3⟩ := hL L[i] (List.getElem_mem h)
  obtain ⟨b1, b2, b3, b4, b5⟩ := part_rows hs a1 a2 a3
  obtain ⟨_, q1, _, hp⟩ := pq_eq hs a1 a2
  obtain ⟨c1, c2, _, _, _, ⟨ck, G, g1, g2, g3⟩, _⟩ := hp (by simpa [okE] using a3)
  have hv := ckP_0 (psp_ok hs.ok (i := L[i].1) a2) ck
  have er : evR s L[i] = rowsT (psp s L[i].1 L[i].2) 0 G := by unfold evR; rw [g1, inl_nat]
  have hrr : g_ref36_Rows (psp s L[i].1 L[i].2) (pq s L[i].1 L[i].2).1.Breaks = some (evR s L[i], 0) := by rw [g1, er]; exact refRows hv ck g2 g3
  rw [if_pos (by simpa using h), atI_nat hli, wr64 (x := (i : Int) + 1) (by omega)]
  simp only [Option.bind_some]
  rw [hp1, hp2, q1 hck]
  simp only [Option.bind_some]
  rw [c1, c2, paragraph_eq hs.ok (Nat.le_of_lt a1) a2]
  simp only [Option.bind_some]
  rw [show (A_Pg.mk (tkP s.Words L[i].1 L[i].2) s.House.Cols s.House.Rows s.Table) = psp s L[i].1 L[i].2 from rfl, hrr]
  simp only [Option.bind_some]
  rw [refEvRows (by omega) (fun t ht => ⟨by rw [er] at ht; exact rows_ne hv g2 t ht, by
   have := b4 t ht
   have hcols := hs.house.2.2.2.2.2.2.2.1
   have := gv_len this.1 (m := 32) (by omega)
   omega⟩)]
  simp only [Option.bind_some]
  rw [if_pos (by simp; omega)]
  refine ⟨_, rfl, ⟨by first | rfl | trivial, i + 1, rfl, h, ?_⟩, by dsimp only; omega⟩
  dsimp only
  rw [List.take_succ_eq_append_getElem (by simpa using h), List.map_append]
  simp [evOf]
 ·right
  obtain rfl : i = L.length := by omega
  rw [if_neg (by simp)]
  rw [List.take_of_length_le (by simp)]
theorem same_row (t : List UInt8) : g_style_Same (rowE t) (rowE t) = some true := by
 have key : iter (g_slEqU_s1 (rowE t).Runs (rowE t).Runs) 0 = some (.inr ()) := by
  refine iter_idx 1 (by omega) (fun _ => (.inr () : Unit ⊕ Unit)) (fun i hi => .inl ⟨?_, rfl⟩) ?_
  ·obtain rfl : i = 0 := by omega
   unfold g_slEqU_s1
   rw [if_pos (by simp [rowE]), show atI (rowE t).Runs ((0 : Nat) : Int) = some ⟨t, ⟨0, false, false⟩, []⟩ from rfl]
   simp only [Option.bind_some, beq_self_eq_true, Bool.and_self, if_true]
   rw [wr64 (by omega)]
  ·unfold g_slEqU_s1
   rw [if_neg (by simp [rowE])]
 unfold g_style_Same g_slEqU
 rw [if_neg (by simp), key]
 rfl
theorem same_rows (R : List (List UInt8)) (hR : R.length ≤ 1000) : g_style_SameRows (R.map rowE) (R.map rowE) = some true := by
 have key : iter (g_slEqR_s1 (R.map rowE) (R.map rowE)) 0 = some (.inr ()) := by
  refine iter_idx R.length (by omega) (fun _ => (.inr () : Unit ⊕ Unit)) (fun i hi => .inl ⟨?_, rfl⟩) ?_
  ·unfold g_slEqR_s1
   rw [List.length_map, if_pos (by simpa using hi), show atI (R.map rowE) (i : Int) = some (rowE R[i]) by rw [atI_nat (by simpa using hi)]; simp]
   simp only [Option.bind_some]
   rw [same_row]
   simp only [Option.bind_some, if_true]
   rw [wr64 (by omega)]
  ·unfold g_slEqR_s1
   rw [List.length_map, if_neg (by simp)]
 unfold g_style_SameRows g_slEqR
 rw [if_neg (by simp), key]
 rfl
theorem costs_loop {s : A_Sh} (hs : Sv s) {L : List (Nat × Nat)} {e f : Int} (hn : L.length ≤ 10) (hL : ∀ q ∈ L, q.1 < q.2 ∧ q.2 ≤ s.Words.length ∧ okE s q.1 q.2 = true) :
  iter (g_law38_SegmentCosts_s1 (L.zipIdx.map (evOf s), e) (L.zipIdx.map (evOf s), f)) 0 = some (.inr ()) := by
 refine iter_idx L.length (by omega) (fun _ => (.inr () : Unit ⊕ Unit)) (fun i hi => .inl ⟨?_, rfl⟩) ?_
 ·unfold g_law38_SegmentCosts_s1
  dsimp only
  obtain ⟨a1, a2, a3⟩ := hL L[i] (List.getElem_mem hi)
  obtain ⟨_, _, b3, _⟩ := part_rows hs a1 a2 a3
  rw [if_pos (by simpa using hi), show atI (L.zipIdx.map (evOf s)) (i : Int) = some (evOf s (L[i], i)) by rw [atI_nat (by simpa using hi)]; simp]
  simp only [Option.bind_some, bne_self_eq_false, Bool.false_eq_true, if_false, beq_self_eq_true, Bool.and_self, if_true]
  rw [show (evOf s (L[i], i)).Rows = (evR s L[i]).map rowE from rfl, same_rows _ (by omega)]
  rw [if_pos (by simp [evOf]), if_pos (by simp [evOf])]
  simp only [Option.bind_some, Bool.not_true, Bool.false_eq_true, if_false]
  rw [wr64 (by omega)]
 ·unfold g_law38_SegmentCosts_s1
  dsimp only
  rw [if_neg (by simp)]
theorem csL_inl {s : A_Sh} : ∀ {L : List (Nat × Nat)} {e : Int}, csL s L = .inl e → e ≠ 0
 | [], e, h => by simp [csL] at h
 | q :: L, e, h => by
  rw [csL_cons] at h
  by_cases hq : okE s q.1 q.2 = true
  ·rw [if_pos hq] at h
   cases hL : csL s L with
   | inl f =>
    rw [hL] at h
    injection h with h
    exact h ▸ csL_inl hL
   | inr r => rw [hL] at h; cases h
  ·rw [if_neg hq] at h
   injection h with h
   rw [← h]
   intro h0
   exact hq (by simp [okE, h0])
theorem segmentCosts_true {s : A_Sh} (h : Szs s) (l : List A_Part) : g_law38_SegmentCosts s l = some true := by
 obtain ⟨s', h1, h2⟩ := few_eq h
 have hsub : subH l (if 10 < (l.length : Int) then 10 else (l.length : Int)) = some (l.take 10) := by
  unfold subH
  split
  ·rename_i hh
   rw [if_pos (by omega)]
   simp
  ·rename_i hh
   rw [if_pos (by omega), Int.toNat_natCast, Nat.sub_zero, List.drop_zero, List.take_of_length_le (Nat.le_refl _), List.take_of_length_le (by omega)]
 have hend : iter (g_law38_SegmentCosts_s1 ([], 0) ([], 0)) 0 = some (.inr ()) := by
  refine iter_idx 0 (by omega) (fun _ => (.inr () : Unit ⊕ Unit)) (fun i hi => by omega) ?_
  unfold g_law38_SegmentCosts_s1
  dsimp only
  rw [if_neg (by simp)]
 have hendc : ∀ c : Int, iter (g_law38_SegmentCosts_s1 ([], c) ([], c)) 0 = some (.inr ()) := by
  intro c
  refine iter_idx 0 (by omega) (fun _ => (.inr () : Unit ⊕ Unit)) (fun i hi => by omega) ?_
  unfold g_law38_SegmentCosts_s1
  dsimp only
  rw [if_neg (by simp)]
 have bad : ∀ c : Int, g_sg_Cost s' (l.take 10) = some (0, c) → g_ref38_Cost s' (l.take 10) = some (0, c) → g_sg_Events s' (l.take 10) = some ([], c) → g_ref38_Events s' (l.take 10) = some ([], c) → g_law38_SegmentCosts s l = some true := by
  intro c a1 a2 a3 a4
  unfold g_law38_SegmentCosts
  rw [awake38, h1]
  simp only [Option.bind_some, if_true, hsub, a1, a2, a3, a4, bne_self_eq_false, Bool.false_eq_true, if_false, hendc]
 by_cases h3 : ckSp s' = 0
 ·have hs := ckSp_0 h2 h3
  have hrc : g_ref38_Check s' = some 0 := by rw [ref_segCheck h2, h3]
  have hw := h2.words
  have hch := ref_chain (s := s') h2.words (l.take 10) (by simp; omega)
  rcases cost_prog hs (l.take 10) (by simp; omega) with ⟨hno, hc⟩ | ⟨L, hL, hP, hc⟩
  ·have hr : g_ref38_Cost s' (l.take 10) = some (0, 1) := by
    unfold g_ref38_Cost
    rw [hrc]
    simp only [Option.bind_some, bne_self_eq_false, Bool.false_eq_true, if_false]
    rw [hch]
    cases hcc : ckCh s'.Words.length 0 (l.take 10) with
    | none => rfl
    | some a =>
     have : a ≠ (s'.Words.length : Int) := fun e => hno (by rw [hcc, e])
     simp only [Option.bind_some]
     rw [if_pos (by simpa using this)]
   refine bad 1 ?_ hr ?_ ?_
   ·simp [g_sg_Cost, seg_Check h2, h3, hc]
   ·simp [g_sg_Events, seg_Check h2, h3, hc]
   ·simp [g_ref38_Events, hr]
  ·have hn : L.length ≤ 10 := by
    have := congrArg List.length hL
    simp [inP] at this
    omega
   have hm := pa_mem hP
   have hrs := ref_sum hs hrc hL (fun q hq => (hm q hq).2) hn
   have hcc : ckCh s'.Words.length 0 (l.take 10) = some (s'.Words.length : Int) := by
    by_cases hq : ckCh s'.Words.length 0 (l.take 10) = some (s'.Words.length : Int)
    ·exact hq
    ·exfalso
     apply hq
     have key : ∀ {a : Nat} {V : List (Nat × Nat)}, Pa s'.Words.length a V → ∀ {l : List A_Part}, l.map (fun p => (p.From, p.To)) = inP V → ckCh s'.Words.length a l = some (s'.Words.length : Int) := by
      intro a V hV
      induction hV with
      | nil =>
       intro l hl
       have : l = [] := by simpa [inP] using hl
       subst this; rfl
      | @cons i j V' b1 b2 b3 ih =>
       intro l hl
       cases l with
       | nil => simp [inP] at hl
       | cons p l =>
        simp only [inP, List.map_cons, List.cons.injEq, Prod.mk.injEq] at hl
        rw [ckCh_cons, if_neg (by omega), hl.1.2]
        exact ih (by simpa [inP] using hl.2)
     exact key hP hL
   rw [hcc] at hch
   have hr : g_ref38_Cost s' (l.take 10) = some (match csG 0 (csL s' L) with | .inl e => (0, e) | .inr r => (r, 0)) := by
    unfold g_ref38_Cost
    rw [hrc]
    simp only [Option.bind_some, bne_self_eq_false, Bool.false_eq_true, if_false]
    rw [hch]
    simp only [Option.bind_some, bne_self_eq_false, Bool.false_eq_true, if_false]
    rw [hrs]
    simp only [Option.bind_some]
    cases csG 0 (csL s' L) <;> rfl
   cases hcs : csL s' L with
   | inl e =>
    rw [hcs] at hc hr
    have he := csL_inl hcs
    dsimp only [csG] at hc hr
    refine bad e ?_ hr ?_ ?_
    ·simp [g_sg_Cost, seg_Check h2, h3, hc]
    ·simp [g_sg_Events, seg_Check h2, h3, hc, he]
    ·simp [g_ref38_Events, hr, he]
   | inr r =>
    rw [hcs] at hc hr
    obtain ⟨ho, rfl⟩ := csL_inr hcs
    dsimp only [csG] at hc hr
    rw [Int.zero_add] at hr
    have hq : ∀ q ∈ L, q.1 < q.2 ∧ q.2 ≤ s'.Words.length ∧ okE s' q.1 q.2 = true := fun q hq => ⟨(hm q hq).2.1, (hm q hq).2.2, ho q hq⟩
    have hE : g_sg_Events s' (l.take 10) = some (L.zipIdx.map (evOf s'), 0) := by
     simp only [g_sg_Events, seg_Check h2, h3, hc, tokens_eq h2, Option.bind_some, bne_self_eq_false, Bool.false_eq_true, if_false]
     rw [evs_prog hs hn hq]
     rfl
    have hF : g_ref38_Events s' (l.take 10) = some (L.zipIdx.map (evOf s'), 0) := by
     simp only [g_ref38_Events, hr, Option.bind_some, bne_self_eq_false, Bool.false_eq_true, if_false]
     rw [refEvs hs hrc hL hn hq]
     rfl
    have hC : g_sg_Cost s' (l.take 10) = some (sumW s' L, 0) := by simp [g_sg_Cost, seg_Check h2, h3, hc]
    unfold g_law38_SegmentCosts
    rw [awake38, h1]
    simp only [Option.bind_some, if_true, hsub, hC, hr, hE, hF, bne_self_eq_false, Bool.false_eq_true, if_false]
    rw [costs_loop hs hn hq]
    rfl
 ·refine bad (ckSp s') ?_ ?_ ?_ ?_
  ·simp [g_sg_Cost, seg_Check h2, h3]
  ·simp [g_ref38_Cost, ref_segCheck h2, h3]
  ·simp [g_sg_Events, seg_Check h2, h3]
  ·have hr : g_ref38_Cost s' (l.take 10) = some (0, ckSp s') := by simp [g_ref38_Cost, ref_segCheck h2, h3]
   simp [g_ref38_Events, hr, h3]
open Go.ChangeShapes Go.WideShapes Go.ChangeAt Go.RowKit
theorem own : ownKnob Tryz.prog.godebug = none := by kernel_rfl
theorem laidOut : laidOutB Tryz.prog = true := by kernel_rfl
theorem standIn_all (ts : List TypeId) (h : ts.all (fun t => !(Tryz.prog.wantsStandIn t)) = true) (t : TypeId) (ht : t ∈ ts) : Tryz.pinned.checked.prog.wantsStandIn t = false := by
 have := List.all_eq_true.1 h t ht
 exact (show Tryz.prog.wantsStandIn t = false by simpa using this)
def putCells (cs : Array Value) : Obj → Obj
 | .cells _ t frozen => .cells cs t frozen
 | o => o
theorem u8t_of9 {W : World} (h : laidMetH Tryz.prog [("unicode/utf8.acceptRanges", Rows.laid_unicode_utf8_acceptRanges), ("unicode/utf8.first", Rows.laid_unicode_utf8_first)] W) : U8T W :=
 utf8Tabs_of_readsT (U8Types.of196 Tryz.laysValid) ⟨by kernel_rfl, by kernel_rfl, by kernel_rfl, by kernel_rfl, by kernel_rfl, by kernel_rfl, by kernel_rfl⟩ (Lib.laidMet.reads h (.tail _ (.head _))) (Lib.laidMet.reads h (.head _))
theorem cell_keep {w w' : World} {g c : Nat} {v : Value} (h : w.cell? ⟨g, c, none⟩ = some v) (hb : Below w.heap.size w w') : w'.cell? ⟨g, c, none⟩ = some v := by
 have hlt : g < w.heap.size := by
  rcases Nat.lt_or_ge g w.heap.size with h1 | h1
  ·exact h1
  ·simp [World.cell?, Array.getElem?_eq_none h1] at h
 rw [World.cell?_of_block (hb.block g hlt)]
 exact h
theorem stabU8T : Stab U8T := fun w w' h hb => ⟨fun c hc => cell_keep (h.1 c hc) hb, fun i hi => ⟨cell_keep (h.2 i hi).1 hb, cell_keep (h.2 i hi).2 hb⟩⟩
theorem shp_of {W : World} (h : W.ShapedOpen Tryz.prog) : Shp W :=
 cell_of_shapedOpen_int (k := .i64) (t := 3) (zero := #[.int .i64 0]) h (of_decide_eq_true (by kernel_rfl)) (by kernel_rfl) rfl (by kernel_rfl) (by kernel_rfl) Tryz.underlying3
def Env9 (w : World) : Prop := U8T w ∧ Shp w
theorem stabEnv9 : Stab Env9 := fun w w' ⟨a, b⟩ hb => ⟨stabU8T w w' a hb, stabShp w w' b hb⟩
theorem env_of9 {W : World} (h : laidMetH Tryz.prog [("unicode/utf8.acceptRanges", Rows.laid_unicode_utf8_acceptRanges), ("unicode/utf8.first", Rows.laid_unicode_utf8_first)] W) (hs : W.ShapedOpen Tryz.prog) : Env9 W := ⟨u8t_of9 h, shp_of hs⟩
noncomputable def laidWorld9 (os : Os) : World :=
 { (World.holding Tryz.prog os ⟨#[], #[], []⟩) with heap := (((World.holding Tryz.prog os ⟨#[], #[], []⟩).heap.modify 1 (putCells #[.int .u8 128, .int .u8 191, .int .u8 160, .int .u8 191, .int .u8 128, .int .u8 159, .int .u8 144, .int .u8 191, .int .u8 128, .int .u8 143, .int .u8 0, .int .u8 0, .int .u8 0, .int .u8 0, .int .u8 0, .int .u8 0, .int .u8 0, .int .u8 0, .int .u8 0, .int .u8 0, .int .u8 0, .int .u8 0, .int .u8 0, .int .u8 0, .int .u8 0, .int .u8 0, .int .u8 0, .int .u8 0, .int .u8 0, .int .u8 0, .int .u8 0, .int .u8 0])).modify 0 (putCells (Pinned.utf8FirstZ.map fun (z : Nat) => Value.int .u8 (z : Int)).toArray)) }
def A_Span.sz (x : A_Span) : Prop := (True) ∧ (True) ∧ True
def A_Word.sz (x : A_Word) : Prop := (x.Text.length ≤ 1048576) ∧ (A_Span.sz x.Span) ∧ True
def T_arr6_Int.sz (x : T_arr6_Int) : Prop := (True) ∧ (True) ∧ (True) ∧ (True) ∧ (True) ∧ (True)
def A_Pn.sz (x : A_Pn) : Prop := (T_arr6_Int.sz x.Sg) ∧ (True) ∧ (True) ∧ (True) ∧ (True) ∧ (True) ∧ (True) ∧ True
def A_Pf.sz (x : A_Pf) : Prop := (x.Name.length ≤ 1048576) ∧ (True) ∧ (True) ∧ (True) ∧ (True) ∧ (True) ∧ (True) ∧ (True) ∧ (True) ∧ (x.Fbd.length ≤ 1048576) ∧ (True) ∧ (True) ∧ (True) ∧ (True) ∧ True
def A_Sh.sz (x : A_Sh) : Prop := (True) ∧ (x.Words.length ≤ 1048576 ∧ ∀ a ∈ x.Words, A_Word.sz a) ∧ (x.Shots.length ≤ 1048576 ∧ ∀ a ∈ x.Shots, True) ∧ (A_Pn.sz x.Table) ∧ (A_Pf.sz x.House) ∧ True
theorem szs_of {s : A_Sh} (h : A_Sh.sz s) (hr : 0 ≤ s.Rate ∧ s.Rate ≤ 255) : Szs s :=
 ⟨hr, fun w hw => (h.2.1.2 w hw).1, h.2.2.2.2.1.1, h.2.2.2.2.1.2.2.2.2.2.2.2.2.2.1⟩
theorem speech_rate {ds : List D} {s : A_Sh} (h : ∀ d ∈ ds, Sz d) (hm : s.d ∈ ds) : 0 ≤ s.Rate ∧ s.Rate ≤ 255 :=
 Sz_u8.1 (Sz_agg.1 (h _ hm) (.int .u8 s.Rate) (by simp))
def A_Part.sz (x : A_Part) : Prop := (True) ∧ (True) ∧ (x.Breaks.length ≤ 1048576 ∧ ∀ a ∈ x.Breaks, True) ∧ (A_Span.sz x.Span) ∧ True
theorem law_SegmentCosts (s : A_Sh) (l : List A_Part) (hB : A_Sh.sz s) (hC : l.length ≤ 1048576 ∧ ∀ a ∈ l, A_Part.sz a) : AFun Tryz.prog Env9 5 [s.d, .sl (l.map A_Part.d)] (.bool true) := by
 refine AFun.sized (by kernel_rfl) fun hz => ?_
 exact a_law38_SegmentCosts stabEnv9 (fun _ h => h.2) (fun _ h => h.1) (segmentCosts_true (szs_of hB (speech_rate hz (by simp))) l)
open Go.ChangeShapes Go.WideShapes Go.ChangeAt Go.RowKit Go.Joins
def FA (w : World) : Nat → Nat → Prop := fun b _ => b < w.heap.size
theorem FA_fb (w : World) : FB (cF (FA w)) w := fun _ _ h => h
theorem wf_inR {k : IntKind} {n : Int} (h : (Lit.int k n).wf = true) : inR k n := by
 simp only [Lit.wf, Bool.and_eq_true, decide_eq_true_eq] at h
 cases k <;> simp [IntKind.min, IntKind.max, IntKind.signed, IntKind.bits] at h <;> simp [inR, kLo, kHi] <;> omega
theorem strOfBytes (s : ByteArray) : (⟨s.data.toList.toArray⟩ : ByteArray) = s := by cases s; simp
theorem AFun.law {P : Program} {I : World → Prop} {f : FuncId} {ds : List D} (h : AFun P I f ds (.bool true)) {W : World} {args : List Value} (hI : I W) (hl : args.length = ds.length) (hr : ∀ (i : Nat) v d, args[i]? = some v → ds[i]? = some d → Rep W (cF (FA W)) v d) :
  Calls P f args.toArray W fun e w' => e = .returned (.bool true) ∧ Below W.heap.size W w' := by
 refine (h.2 W (FA W) args hI (FA_fb W) hl hr).mono ?_
 rintro e w' ⟨v, F', rfl, hb, _, _, _, hrep⟩
 cases hrep
 exact ⟨rfl, hb⟩
section
variable (H : Type) (enc : TypeId × Value → H) (P : Program)
def OpT {α : Type} (t : TypeId) (δ : α → D) : Prop :=
 ∀ (w : World) (fuel : Nat) (cs : List Value) (x : DataW H × List MemPlace), DataW.trod enc P w 0 (fun _ => true) true fuel t cs = some x → ∃ a : α, RepL (cF (FA w)) w cs (δ a).cells
def OpF {α : Type} (fs : List Field) (off : Nat) (γ : α → List D) : Prop :=
 ∀ (w : World) (fuel : Nat) (cs : List Value), off ≤ cs.length → (∀ f ∈ fs, ∃ x, DataW.trod enc P w 0 (fun _ => true) true fuel f.type ((cs.drop f.offset).take (P.cellsOf f.type)) = some x) → (fs = [] → cs.length = off) → (∀ f ∈ fs, f.offset + P.cellsOf f.type ≤ cs.length) → ((fs.map fun f => P.cellsOf f.type).sum + off = cs.length) → ∃ a : α, RepL (cF (FA w)) w (cs.drop off) (γ a)
end
section
variable {H : Type} {enc : TypeId × Value → H} {P : Program}
theorem OpT.int {t : TypeId} {k : IntKind} (ht : P.underlying t = some (.int k)) : OpT H enc P t (D.int k) := by
 intro w fuel cs x h
 obtain ⟨n, rfl, _, hw⟩ := DataW.trod_int ht h
 exact ⟨n, RepL.one1 rfl (.int _ _ (wf_inR hw))⟩
theorem OpT.bool {t : TypeId} (ht : P.underlying t = some .bool) : OpT H enc P t D.bool := by
 intro w fuel cs x h
 obtain ⟨n, rfl, _⟩ := DataW.trod_bool ht h
 exact ⟨n, RepL.one1 rfl (.bool _)⟩
theorem rep_strB {w : World} {C : Cx} (s : ByteArray) (h : s.size ≤ maxLen) : Rep w C (.string s) (.str s.data.toList) := by
 have := Rep.str (w := w) (C := C) s.data.toList (by rw [Array.length_toList]; exact h)
 rwa [strOfBytes] at this
theorem OpT.str {t : TypeId} (ht : P.underlying t = some .string) : OpT H enc P t D.str := by
 intro w fuel cs x h
 obtain ⟨s, rfl, _, hs⟩ := DataW.trod_string ht h
 exact ⟨s.data.toList, RepL.one1 rfl (rep_strB s hs)⟩
theorem OpT.map {α β : Type} {t : TypeId} {δ : α → D} {ε : β → D} (h : OpT H enc P t δ) (φ : α → β) (hφ : ∀ a, ε (φ a) = δ a) : OpT H enc P t ε := by
 intro w fuel cs x hx
 obtain ⟨a, ha⟩ := h w fuel cs x hx
 exact ⟨φ a, by rw [hφ]; exact ha⟩
theorem OpF.nil {off : Nat} : OpF H enc P [] off (fun _ : Unit => []) := by
 intro w fuel cs h1 h2 h3 h4 h5
 refine ⟨(), ?_⟩
 rw [List.drop_eq_nil_of_le (by have := h3 rfl; omega)]
 exact RepL.nil
theorem OpF.cons {α β : Type} {f : Field} {fs : List Field} {off : Nat} {δ : α → D} {γ : β → List D} (ho : f.offset = off) (h : OpT H enc P f.type δ) (hr : OpF H enc P fs (off + P.cellsOf f.type) γ) : OpF H enc P (f :: fs) off (fun p : α × β => (δ p.1).cells ++ γ p.2) := by
 intro w fuel cs h1 h2 h3 h4 h5
 subst ho
 obtain ⟨x, hx⟩ := h2 f (by simp)
 obtain ⟨a, ha⟩ := h w fuel _ x hx
 have hlen : f.offset + P.cellsOf f.type ≤ cs.length := h4 f (by simp)
 simp only [List.map_cons, List.sum_cons] at h5
 obtain ⟨b, hb⟩ := hr w fuel cs hlen (fun g hg => h2 g (by simp [hg])) (fun e => by subst e; simp at h5; omega) (fun g hg => h4 g (by simp [hg])) (by omega)
 refine ⟨(a, b), ?_⟩
 have := ha.append hb
 rw [show (cs.drop f.offset).take (P.cellsOf f.type) ++ cs.drop (f.offset + P.cellsOf f.type) = cs.drop f.offset by rw [← List.drop_drop]; exact List.take_append_drop _ _] at this
 exact this
theorem OpT.struct {α β : Type} {t : TypeId} {fs : Array Field} {γ : α → List D} {ε : β → D} (ht : P.underlying t = some (.struct fs)) (hoff : (fs.toList.all fun f => decide (f.offset + P.cellsOf f.type ≤ P.cellsOf t)) = true) (hsum : (fs.toList.map fun f => P.cellsOf f.type).sum = P.cellsOf t) (h : OpF H enc P fs.toList 0 γ) (φ : α → β) (hφ : ∀ a, (ε (φ a)).cells = γ a) : OpT H enc P t ε := by
 intro w fuel cs x hx
 obtain ⟨xs, n, _, _, hl, hxl, hf⟩ := DataW.trod_struct ht hx
 obtain ⟨a, ha⟩ := h w n cs (Nat.zero_le _) (fun f hf' => by
  obtain ⟨i, hi, rfl⟩ := List.getElem_of_mem hf'
  have hi' : fs[i]? = some fs.toList[i] := by simp at hi ⊢
  have := hf i _ hi'
  rw [List.getElem?_eq_getElem (by rw [hxl]; simpa using hi)] at this
  exact ⟨_, this⟩) (fun e => by rw [e] at hsum; simp at hsum; omega) (fun f hf' => by have := List.all_eq_true.1 hoff f hf'; simp at this; omega) (by omega)
 refine ⟨φ a, ?_⟩
 rw [hφ]
 simpa using ha
theorem addr_addO (b o i : Nat) : (⟨b, o, none⟩ : Addr).add i = ⟨b, o + i, none⟩ := by
 unfold Addr.add
 split
 ·rename_i e; subst e; rfl
 ·rfl
theorem rows_of {w : World} {b off k : Nat} {α : Type} {δ : α → D} (hk : ∀ a, (δ a).cells.length = k) : ∀ (n : Nat) (s : Nat), (∀ i, i < n → ∃ cs', (∀ j, j < k → w.cell? ⟨b, off + (s + i) * k + j, none⟩ = cs'[j]?) ∧ cs'.length = k ∧ ∃ a : α, RepL (cF (FA w)) w cs' (δ a).cells) →
  ∃ (l : List α) (vals : List Value), l.length = n ∧ vals.length = n * k ∧ RepL (cF (FA w)) w vals ((l.map δ).flatMap D.cells) ∧ ∀ (i : Nat) v, vals[i]? = some v → w.cell? ⟨b, off + s * k + i, none⟩ = some v := by
 intro n
 induction n with
 | zero => intro s _; exact ⟨[], [], rfl, by simp, RepL.nil, by simp⟩
 | succ n ih =>
  intro s h
  obtain ⟨cs, hc, hcl, a, ha⟩ := h 0 (by omega)
  obtain ⟨l, vals, h1, h2, h3, h4⟩ := ih (s + 1) (fun i hi => by
   obtain ⟨cs', hh⟩ := h (i + 1) (by omega)
   refine ⟨cs', ?_⟩
   rw [show s + 1 + i = s + (i + 1) by omega]
   exact hh)
  refine ⟨a :: l, cs ++ vals, by simp [h1], by rw [List.length_append, hcl, h2, Nat.add_mul]; omega, ?_, ?_⟩
  ·simp only [List.map_cons, List.flatMap_cons]
   exact ha.append h3
  ·intro i v hv
   by_cases hi : i < k
   ·rw [List.getElem?_append_left (by omega)] at hv
    have := hc i hi
    rw [Nat.add_zero] at this
    rw [this, hv]
   ·rw [List.getElem?_append_right (by omega)] at hv
    have := h4 _ v hv
    rw [hcl] at this
    rw [← this]
    congr 2
    rw [Nat.add_mul]
    omega
theorem OpT.slice {α : Type} {t e : TypeId} {δ : α → D} (ht : P.underlying t = some (.slice e)) (hpos : 0 < P.cellsOf e) (hk : ∀ a, (δ a).cells.length = P.cellsOf e) (h : OpT H enc P e δ) : OpT H enc P t (fun l : List α => D.sl (l.map δ)) := by
 intro w fuel cs x hx
 rcases Deep.open_slice ht hx with ⟨rfl, _⟩ | ⟨a, len, cap, m, n, Dd, Pl, rfl, hb, hl, hm, hmm, _, hel⟩
 ·exact ⟨[], RepL.one1 rfl (.sl0 _ _ (Nat.zero_le _))⟩
 ·simp only [if_true] at hmm
  subst hmm
  by_cases h0 : len = 0
  ·subst h0
   exact ⟨[], RepL.one1 rfl (.sl0 _ _ hm)⟩
  ·obtain ⟨b, off, spot⟩ := a
   obtain ⟨c0, hc0, _⟩ := hel 0 (by omega)
   obtain ⟨_, hl0, hg0⟩ := World.cells?_some hc0
   have hcell0 := hg0 0 hpos
   have hx0 : c0[0]? = some (c0[0]'(by omega)) := List.getElem?_eq_getElem _
   rw [hx0] at hcell0
   have hspot : spot = none := by simpa [Addr.add] using World.cell?_spot hcell0
   subst hspot
   have hbl : b < w.heap.size := by
    rcases Nat.lt_or_ge b w.heap.size with h1 | h1
    ·exact h1
    ·simp [Addr.add, World.cell?, Array.getElem?_eq_none h1] at hcell0
   obtain ⟨l, vals, h1, h2, h3, h4⟩ := rows_of (w := w) (b := b) (off := off) (k := P.cellsOf e) hk len 0 (fun i hi => by
    obtain ⟨cs', hc', ht'⟩ := hel i (by omega)
    obtain ⟨_, hl', hg'⟩ := World.cells?_some hc'
    refine ⟨cs', fun j hj => ?_, hl', h w n cs' _ ht'⟩
    have := hg' j hj
    rw [addr_addO, addr_addO] at this
    rw [← this]
    simp)
   refine ⟨l, RepL.one1 rfl ?_⟩
   have hkk : ∀ x ∈ l.map δ, x.cells.length = P.cellsOf e := fun x hx => by obtain ⟨y, _, rfl⟩ := List.mem_map.1 hx; exact hk y
   have := Rep.sl (w := w) (C := cF (FA w)) b off (P.cellsOf e) m (l.map δ) vals (by simp [h1]; omega) hm hkk h3.len h3.one (fun _ _ => hbl) (fun i v hv => by have := h4 i v hv; simpa using this) (fun i v d hv hd => h3.rep i v d hv hd)
   rw [List.length_map, h1] at this
   exact this
theorem arr_rows {α : Type} {e : TypeId} {δ : α → D} (h : OpT H enc P e δ) (w : World) (fuel : Nat) (cs : List Value) (k : Nat) : ∀ (n s : Nat), (∀ i, s ≤ i → i < s + n → ∃ x, DataW.trod enc P w 0 (fun _ => true) true fuel e ((cs.drop (i * k)).take k) = some x) → cs.length = (s + n) * k →
  ∃ l : List α, l.length = n ∧ RepL (cF (FA w)) w (cs.drop (s * k)) (l.flatMap fun a => (δ a).cells) := by
 intro n
 induction n with
 | zero => intro s _ hl; exact ⟨[], rfl, by rw [List.drop_eq_nil_of_le (by rw [hl]; exact Nat.le_refl _)]; exact RepL.nil⟩
 | succ n ih =>
  intro s hx hl
  obtain ⟨x, hx0⟩ := hx s (by omega) (by omega)
  obtain ⟨a, ha⟩ := h w fuel _ x hx0
  obtain ⟨l, hll, hr⟩ := ih (s + 1) (fun i h1 h2 => hx i (by omega) (by omega)) (by rw [hl]; congr 1; omega)
  refine ⟨a :: l, by simp [hll], ?_⟩
  have := ha.append hr
  rw [show (cs.drop (s * k)).take k ++ cs.drop ((s + 1) * k) = cs.drop (s * k) by rw [show (s + 1) * k = s * k + k by rw [Nat.add_mul]; omega, ← List.drop_drop]; exact List.take_append_drop _ _] at this
  exact this
theorem OpT.array {α β : Type} {t e : TypeId} {n : Nat} {δ : α → D} {ε : β → D} (ht : P.underlying t = some (.array n e)) (hc : P.cellsOf t = n * P.cellsOf e) (h : OpT H enc P e δ) (φ : (l : List α) → l.length = n → β) (hφ : ∀ l h, (ε (φ l h)).cells = l.flatMap fun a => (δ a).cells) : OpT H enc P t ε := by
 intro w fuel cs x hx
 obtain ⟨xs, m, _, _, hl, hxl, hf⟩ := DataW.trod_array ht hx
 obtain ⟨l, hll, hr⟩ := arr_rows h w m cs (P.cellsOf e) n 0 (fun i _ hi => by
  have := hf i (by omega)
  rw [List.getElem?_eq_getElem (by omega)] at this
  exact ⟨_, this⟩) (by rw [hl, hc, Nat.zero_add])
 refine ⟨φ l hll, ?_⟩
 rw [hφ]
 simpa using hr
theorem OpT.arg1 {α : Type} {t : TypeId} {δ : α → D} (h : OpT H enc P t δ) {w : World} {v : Value} {d : DataW H} {p : List MemPlace} (hv : v.cells = #[v]) (hδ : ∀ a, (δ a).cells = [δ a]) (ht : DataW.Trod enc P w 0 (fun _ => true) true t v d p) : ∃ a, Rep w (cF (FA w)) v (δ a) := by
 obtain ⟨fuel, hf⟩ := ht
 obtain ⟨a, ha⟩ := h w fuel _ _ hf
 refine ⟨a, ?_⟩
 rw [hv, hδ] at ha
 exact ha.rep 0 v (δ a) rfl rfl
theorem OpT.argS {α : Type} {t : TypeId} {δ : α → D} {cs : Array Value} (h : OpT H enc P t δ) {w : World} {d : DataW H} {p : List MemPlace} (hδ : ∀ a, ∃ ds, δ a = .agg ds) (ht : DataW.Trod enc P w 0 (fun _ => true) true t (.agg cs) d p) : ∃ a, Rep w (cF (FA w)) (.agg cs) (δ a) := by
 obtain ⟨fuel, hf⟩ := ht
 obtain ⟨a, ha⟩ := h w fuel _ _ hf
 refine ⟨a, ?_⟩
 obtain ⟨ds, hd⟩ := hδ a
 rw [hd] at ha ⊢
 have := ha.agg
 simpa [Value.cells, D.cells] using this
theorem OpT.argSlice {α : Type} {t e : TypeId} {δ : α → D} (ht : P.underlying t = some (.slice e)) (h : OpT H enc P t δ) (hδ : ∀ a, (δ a).cells = [δ a]) {w : World} {r : Reach} {b0 : Nat} {v : Value} {d : DataW H} {p : List MemPlace} (hv : Value.okWide P w r b0 t v) (hd : DataW.Trod enc P w 0 (fun _ => true) true t v d p) : ∃ a, Rep w (cF (FA w)) v (δ a) := by
 obtain ⟨_, _, _, rfl⟩ := okWide_slice ht hv
 exact h.arg1 rfl hδ hd
theorem OpT.argStruct {α : Type} {t : TypeId} {fs : Array Field} {δ : α → D} (ht : P.underlying t = some (.struct fs)) (h : OpT H enc P t δ) (hδ : ∀ a, ∃ ds, δ a = .agg ds) {w : World} {r : Reach} {b0 : Nat} {v : Value} {d : DataW H} {p : List MemPlace} (hv : Value.okWide P w r b0 t v) (hd : DataW.Trod enc P w 0 (fun _ => true) true t v d p) : ∃ a, Rep w (cF (FA w)) v (δ a) := by
 obtain ⟨_, rfl, _⟩ := okWide_struct ht hv
 exact h.argS hδ hd
end
open Go.ChangeShapes Go.WideShapes Go.ChangeAt Go.RowKit Go.Joins
theorem bulk_pos {H : Type} (d : DataW H) : 1 ≤ Rows.uptoBulk d := by
 cases d with
 | lit l => cases l <;> simp [Rows.uptoBulk]
 | _ => simp [Rows.uptoBulk]
theorem bulk_mem {H : Type} : ∀ {l : List (DataW H)} {d : DataW H}, d ∈ l → Rows.uptoBulk d ≤ Rows.uptoBulkAll l
 | a :: l, d, h => by
  unfold Rows.uptoBulkAll
  rcases List.mem_cons.1 h with rfl | h
  ·omega
  ·have := bulk_mem h; omega
theorem bulk_len {H : Type} : ∀ (l : List (DataW H)), l.length ≤ Rows.uptoBulkAll l
 | [] => by simp [Rows.uptoBulkAll]
 | a :: l => by
  unfold Rows.uptoBulkAll
  have := bulk_pos a; have := bulk_len l
  simp only [List.length_cons]; omega
section
variable (H : Type) (enc : TypeId × Value → H) (P : Program) (n : Nat)
def OpTB {α : Type} (t : TypeId) (δ : α → D) (B : α → Prop) : Prop :=
 ∀ (w : World) (fuel : Nat) (cs : List Value) (x : DataW H × List MemPlace), DataW.trod enc P w 0 (fun _ => true) true fuel t cs = some x → Rows.uptoBulk x.1 ≤ n → ∃ a : α, RepL (cF (FA w)) w cs (δ a).cells ∧ B a
def OpFB {α : Type} (fs : List Field) (off : Nat) (γ : α → List D) (B : α → Prop) : Prop :=
 ∀ (w : World) (fuel : Nat) (cs : List Value), off ≤ cs.length → (∀ f ∈ fs, ∃ x : DataW H × List MemPlace, DataW.trod enc P w 0 (fun _ => true) true fuel f.type ((cs.drop f.offset).take (P.cellsOf f.type)) = some x ∧ Rows.uptoBulk x.1 ≤ n) → (fs = [] → cs.length = off) → (∀ f ∈ fs, f.offset + P.cellsOf f.type ≤ cs.length) → ((fs.map fun f => P.cellsOf f.type).sum + off = cs.length) → ∃ a : α, RepL (cF (FA w)) w (cs.drop off) (γ a) ∧ B a
end
section
variable {H : Type} {enc : TypeId × Value → H} {P : Program} {n : Nat}
theorem OpTB.int {t : TypeId} {k : IntKind} (ht : P.underlying t = some (.int k)) : OpTB H enc P n t (D.int k) (fun _ => True) := by
 intro w fuel cs x h _
 obtain ⟨a, ha⟩ := OpT.int ht w fuel cs x h
 exact ⟨a, ha, trivial⟩
theorem OpTB.bool {t : TypeId} (ht : P.underlying t = some .bool) : OpTB H enc P n t D.bool (fun _ => True) := by
 intro w fuel cs x h _
 obtain ⟨a, ha⟩ := OpT.bool ht w fuel cs x h
 exact ⟨a, ha, trivial⟩
theorem OpTB.str {t : TypeId} (ht : P.underlying t = some .string) : OpTB H enc P n t D.str (fun s => s.length ≤ n) := by
 intro w fuel cs x h hn
 obtain ⟨s, rfl, rfl, hs⟩ := DataW.trod_string ht h
 refine ⟨s.data.toList, RepL.one1 rfl (rep_strB s hs), ?_⟩
 simp only [Rows.uptoBulk] at hn
 omega
theorem OpFB.nil {off : Nat} : OpFB H enc P n [] off (fun _ : Unit => []) (fun _ => True) := by
 intro w fuel cs h1 h2 h3 h4 h5
 refine ⟨(), ?_, trivial⟩
 rw [List.drop_eq_nil_of_le (by have := h3 rfl; omega)]
 exact RepL.nil
theorem OpFB.cons {α β : Type} {f : Field} {fs : List Field} {off : Nat} {δ : α → D} {γ : β → List D} {A : α → Prop} {B : β → Prop} (ho : f.offset = off) (h : OpTB H enc P n f.type δ A) (hr : OpFB H enc P n fs (off + P.cellsOf f.type) γ B) : OpFB H enc P n (f :: fs) off (fun p : α × β => (δ p.1).cells ++ γ p.2) (fun p => A p.1 ∧ B p.2) := by
 intro w fuel cs h1 h2 h3 h4 h5
 subst ho
 obtain ⟨x, hx, hxn⟩ := h2 f (by simp)
 obtain ⟨a, ha, hA⟩ := h w fuel _ x hx hxn
 have hlen : f.offset + P.cellsOf f.type ≤ cs.length := h4 f (by simp)
 simp only [List.map_cons, List.sum_cons] at h5
 obtain ⟨b, hb, hB⟩ := hr w fuel cs hlen (fun g hg => h2 g (by simp [hg])) (fun e => by subst e; simp at h5; omega) (fun g hg => h4 g (by simp [hg])) (by omega)
 refine ⟨(a, b), ?_, hA, hB⟩
 have := ha.append hb
 rw [show (cs.drop f.offset).take (P.cellsOf f.type) ++ cs.drop (f.offset + P.cellsOf f.type) = cs.drop f.offset by rw [← List.drop_drop]; exact List.take_append_drop _ _] at this
 exact this
theorem OpTB.struct {α β : Type} {t : TypeId} {fs : Array Field} {γ : α → List D} {ε : β → D} {A : α → Prop} {B : β → Prop} (ht : P.underlying t = some (.struct fs)) (hoff : (fs.toList.all fun f => decide (f.offset + P.cellsOf f.type ≤ P.cellsOf t)) = true) (hsum : (fs.toList.map fun f => P.cellsOf f.type).sum = P.cellsOf t) (h : OpFB H enc P n fs.toList 0 γ A) (φ : α → β) (hφ : ∀ a, (ε (φ a)).cells = γ a) (hB : ∀ a, A a → B (φ a)) : OpTB H enc P n t ε B := by
 intro w fuel cs x hx hn
 obtain ⟨xs, m, _, rfl, hl, hxl, hf⟩ := DataW.trod_struct ht hx
 obtain ⟨a, ha, hA⟩ := h w m cs (Nat.zero_le _) (fun f hf' => by
  obtain ⟨i, hi, rfl⟩ := List.getElem_of_mem hf'
  have hi' : fs[i]? = some fs.toList[i] := by simp at hi ⊢
  have := hf i _ hi'
  have hix : i < xs.length := by rw [hxl]; simpa using hi
  rw [List.getElem?_eq_getElem hix] at this
  refine ⟨_, this, ?_⟩
  have h1 := bulk_mem (List.mem_map_of_mem (f := (·.1)) (List.getElem_mem hix))
  simp only [Rows.uptoBulk] at hn
  omega) (fun e => by rw [e] at hsum; simp at hsum; omega) (fun f hf' => by have := List.all_eq_true.1 hoff f hf'; simp at this; omega) (by omega)
 refine ⟨φ a, ?_, hB a hA⟩
 rw [hφ]
 simpa using ha
theorem OpTB.slice {α : Type} {t e : TypeId} {δ : α → D} {A : α → Prop} (ht : P.underlying t = some (.slice e)) (hpos : 0 < P.cellsOf e) (hk : ∀ a, (δ a).cells.length = P.cellsOf e) (h : OpTB H enc P n e δ A) : OpTB H enc P n t (fun l : List α => D.sl (l.map δ)) (fun l => l.length ≤ n ∧ ∀ a ∈ l, A a) := by
 intro w fuel cs x hx hn
 rcases Deep.open_slice ht hx with ⟨rfl, _⟩ | ⟨a, len, cap, m, f, Dd, Pl, rfl, hb, hl, hm, hmm, rfl, hel⟩
 ·exact ⟨[], RepL.one1 rfl (.sl0 _ _ (Nat.zero_le _)), by simp, by simp⟩
 ·simp only [if_true] at hmm
  subst hmm
  by_cases h0 : len = 0
  ·subst h0
   exact ⟨[], RepL.one1 rfl (.sl0 _ _ hm), by simp, by simp⟩
  ·obtain ⟨b, off, spot⟩ := a
   obtain ⟨c0, hc0, _⟩ := hel 0 (by omega)
   obtain ⟨_, hl0, hg0⟩ := World.cells?_some hc0
   have hcell0 := hg0 0 hpos
   have hx0 : c0[0]? = some (c0[0]'(by omega)) := List.getElem?_eq_getElem _
   rw [hx0] at hcell0
   have hspot : spot = none := by simpa [Addr.add] using World.cell?_spot hcell0
   subst hspot
   have hbl : b < w.heap.size := by
    rcases Nat.lt_or_ge b w.heap.size with h1 | h1
    ·exact h1
    ·simp [Addr.add, World.cell?, Array.getElem?_eq_none h1] at hcell0
   simp only [Rows.uptoBulk] at hn
   have hln := bulk_len ((List.range len).map Dd)
   rw [List.length_map, List.length_range] at hln
   obtain ⟨l, vals, h1, h2, h3, h4⟩ := rows_of (w := w) (b := b) (off := off) (k := P.cellsOf e) (α := { a : α // A a }) (δ := fun a => δ a.1) (fun a => hk a.1) len 0 (fun i hi => by
    obtain ⟨cs', hc', ht'⟩ := hel i (by omega)
    obtain ⟨_, hl', hg'⟩ := World.cells?_some hc'
    refine ⟨cs', fun j hj => ?_, hl', ?_⟩
    ·have := hg' j hj
     rw [addr_addO, addr_addO] at this
     rw [← this]
     simp
    ·have hmem : Dd i ∈ (List.range len).map Dd := List.mem_map_of_mem (List.mem_range.2 hi)
     have := bulk_mem hmem
     obtain ⟨a, ha, hA⟩ := h w f cs' _ ht' (by dsimp only; omega)
     exact ⟨⟨a, hA⟩, ha⟩)
   have hmap : l.map (fun a => δ a.1) = (l.map (·.1)).map δ := by rw [List.map_map]; rfl
   rw [hmap] at h3
   refine ⟨l.map (·.1), RepL.one1 rfl ?_, by rw [List.length_map, h1]; omega, fun a ha => ?_⟩
   ·have hkk : ∀ x ∈ (l.map (·.1)).map δ, x.cells.length = P.cellsOf e := fun x hx => by obtain ⟨y, _, rfl⟩ := List.mem_map.1 hx; exact hk y
    have := Rep.sl (w := w) (C := cF (FA w)) b off (P.cellsOf e) m ((l.map (·.1)).map δ) vals (by simp [h1]; omega) hm hkk h3.len h3.one (fun _ _ => hbl) (fun i v hv => by have := h4 i v hv; simpa using this) (fun i v d hv hd => h3.rep i v d hv hd)
    rw [List.length_map, List.length_map, h1] at this
    exact this
   ·obtain ⟨y, _, rfl⟩ := List.mem_map.1 ha
    exact y.2
theorem arr_rowsB {α : Type} {e : TypeId} {δ : α → D} {A : α → Prop} (h : OpTB H enc P n e δ A) (w : World) (fuel : Nat) (cs : List Value) (k : Nat) : ∀ (m s : Nat), (∀ i, s ≤ i → i < s + m → ∃ x : DataW H × List MemPlace, DataW.trod enc P w 0 (fun _ => true) true fuel e ((cs.drop (i * k)).take k) = some x ∧ Rows.uptoBulk x.1 ≤ n) → cs.length = (s + m) * k →
  ∃ l : List α, l.length = m ∧ RepL (cF (FA w)) w (cs.drop (s * k)) (l.flatMap fun a => (δ a).cells) ∧ ∀ a ∈ l, A a := by
 intro m
 induction m with
 | zero => intro s _ hl; exact ⟨[], rfl, by rw [List.drop_eq_nil_of_le (by rw [hl]; exact Nat.le_refl _)]; exact RepL.nil, by simp⟩
 | succ m ih =>
  intro s hx hl
  obtain ⟨x, hx0, hxn⟩ := hx s (by omega) (by omega)
  obtain ⟨a, ha, hA⟩ := h w fuel _ x hx0 hxn
  obtain ⟨l, hll, hr, hAl⟩ := ih (s + 1) (fun i h1 h2 => hx i (by omega) (by omega)) (by rw [hl]; congr 1; omega)
  refine ⟨a :: l, by simp [hll], ?_, fun b hb => by
   rcases List.mem_cons.1 hb with rfl | hb
   ·exact hA
   ·exact hAl b hb⟩
  have := ha.append hr
  rw [show (cs.drop (s * k)).take k ++ cs.drop ((s + 1) * k) = cs.drop (s * k) by rw [show (s + 1) * k = s * k + k by rw [Nat.add_mul]; omega, ← List.drop_drop]; exact List.take_append_drop _ _] at this
  exact this
theorem OpTB.array {α β : Type} {t e : TypeId} {m : Nat} {δ : α → D} {ε : β → D} {A : α → Prop} {B : β → Prop} (ht : P.underlying t = some (.array m e)) (hc : P.cellsOf t = m * P.cellsOf e) (h : OpTB H enc P n e δ A) (φ : (l : List α) → l.length = m → β) (hφ : ∀ l h, (ε (φ l h)).cells = l.flatMap fun a => (δ a).cells) (hB : ∀ l h, (∀ a ∈ l, A a) → B (φ l h)) : OpTB H enc P n t ε B := by
 intro w fuel cs x hx hn
 obtain ⟨xs, k, _, rfl, hl, hxl, hf⟩ := DataW.trod_array ht hx
 obtain ⟨l, hll, hr, hA⟩ := arr_rowsB h w k cs (P.cellsOf e) m 0 (fun i _ hi => by
  have := hf i (by omega)
  rw [List.getElem?_eq_getElem (by omega)] at this
  refine ⟨_, this, ?_⟩
  have h1 := bulk_mem (List.mem_map_of_mem (f := (·.1)) (List.getElem_mem (l := xs) (n := i) (by omega)))
  simp only [Rows.uptoBulk] at hn
  omega) (by rw [hl, hc, Nat.zero_add])
 refine ⟨φ l hll, ?_, hB l hll hA⟩
 rw [hφ]
 simpa using hr
theorem OpTB.argStruct {α : Type} {t : TypeId} {fs : Array Field} {δ : α → D} {B : α → Prop} (ht : P.underlying t = some (.struct fs)) (h : OpTB H enc P n t δ B) (hδ : ∀ a, ∃ ds, δ a = .agg ds) {w : World} {r : Reach} {b0 : Nat} {v : Value} {d : DataW H} {p : List MemPlace} (hv : Value.okWide P w r b0 t v) (hd : DataW.Trod enc P w 0 (fun _ => true) true t v d p) (hn : Rows.uptoBulk d ≤ n) : ∃ a, Rep w (cF (FA w)) v (δ a) ∧ B a := by
 obtain ⟨cs, rfl, _⟩ := okWide_struct ht hv
 obtain ⟨fuel, hf⟩ := hd
 obtain ⟨a, ha, hB⟩ := h w fuel _ _ hf hn
 refine ⟨a, ?_, hB⟩
 obtain ⟨ds, hd⟩ := hδ a
 rw [hd] at ha ⊢
 have := ha.agg
 simpa [Value.cells, D.cells] using this
theorem OpTB.argSlice {α : Type} {t e : TypeId} {δ : α → D} {B : α → Prop} (ht : P.underlying t = some (.slice e)) (h : OpTB H enc P n t δ B) (hδ : ∀ a, (δ a).cells = [δ a]) {w : World} {r : Reach} {b0 : Nat} {v : Value} {d : DataW H} {p : List MemPlace} (hv : Value.okWide P w r b0 t v) (hd : DataW.Trod enc P w 0 (fun _ => true) true t v d p) (hn : Rows.uptoBulk d ≤ n) : ∃ a, Rep w (cF (FA w)) v (δ a) ∧ B a := by
 obtain ⟨_, _, _, rfl⟩ := okWide_slice ht hv
 obtain ⟨fuel, hf⟩ := hd
 obtain ⟨a, ha, hB⟩ := h w fuel _ _ hf hn
 refine ⟨a, ?_, hB⟩
 rw [show (Value.cells _ : Array Value) = #[_] from rfl, hδ] at ha
 exact ha.rep 0 _ (δ a) rfl rfl
end
end Go.Proofs.YtalfcmgcjdkolaaGreatDoor
