/- Texts of one proof, put together (S20, S21, S22, S23, S24, S25, Gt, EP, EQ, S26, S27, Laid9, LSf, Opn, OpnW). No condition but those that each theorem states. -/
import Derived.Test.YtalfcmgcjdkolaaGreatDoorV5
import Derived.Lib.Join
import Derived.Lib.IndexMore
import Derived.Test.YtalfcmgcjdkolaaGreatDoorCards
import Derived.Test.YtalfcmgcjdkolaaGreatDoorTie
import Derived.ProofKit
import Derived.OpenShut
import Derived.Deep.DeepHandedRow
import Derived.Lib.LaidIn
import Derived.Lib.LaidU8T
import Derived.Shelf.Vars
import Derived.Lib.SmallJoins
import Derived.Deep.Slices
import Derived.Deep.Fields
set_option linter.unusedSimpArgs false
set_option linter.unusedVariables false
namespace Go.Proofs.YtalfcmgcjdkolaaGreatDoor
set_option maxRecDepth 100000
set_option maxHeartbeats 10000000
theorem rpath_last {p : A_Paragraph} {i : Nat} {L : List Nat} (h : RPath p i L) (hi : i < p.Tokens.length) : L ≠ [] ∧ L.getLast? = some p.Tokens.length := by
  induction h with
  | nil => omega
  | @cons i j L h1 h2 h3 h4 ih =>
    refine ⟨by simp, ?_⟩
    by_cases hj : j < p.Tokens.length
    · obtain ⟨a, b⟩ := ih hj
      rw [List.getLast?_cons_of_ne_nil a]
      exact b
    · cases h4 with
      | nil => rfl
      | cons q1 q2 _ _ => omega
theorem total_s1 {p : A_Paragraph} (hn : p.Tokens.length ≤ 8) {G : List Nat} (hG : RPath p 0 G) (hl : G.length ≤ 4) : iter (g_rowbreak_sheet_total_s1 (inl G)) (0, 0) = some (.inr ()) := by
  refine iter_of (fun x e => e = Sum.inr () ∧ ∃ (k i : Nat) (L : List Nat), x.2 = (k : Int) ∧ x.1 = (i : Int) ∧ k + L.length = G.length ∧ (inl G).drop k = inl L ∧ RPath p i L) (fun x => G.length - x.2.toNat) ?_ (x := (0, 0)) ⟨rfl, 0, 0, G, rfl, rfl, by omega, by simp, hG⟩ (by show G.length - 0 < _; omega)
  rintro ⟨a, x⟩ e ⟨rfl, k, i, L, hx, ha, hk, hd, hL⟩
  dsimp only at hx ha ⊢
  subst hx ha
  have hlen : (inl G).length = G.length := by simp [inl]
  unfold g_rowbreak_sheet_total_s1
  dsimp only
  rw [hlen]
  cases hL with
  | nil =>
    right
    rw [if_neg (by simp at hk ⊢; omega)]
  | @cons _ j L h1 h2 h3 h4 =>
    left
    simp only [List.length_cons] at hk
    have hat : atI (inl G) (k : Int) = some (j : Int) := by
      have h0 : (inl G)[k]? = some (j : Int) := by
        have := congrArg (·[0]?) hd
        simpa [inl] using this
      exact getI h0
    rw [if_pos (by simp; omega), hat, wr64 (x := (k : Int) + 1) (by omega)]
    simp only [Option.bind_some]
    rw [if_neg (by simp; omega)]
    refine ⟨_, rfl, ⟨by first | rfl | trivial, k + 1, j, L, rfl, rfl, by omega, ?_, h4⟩, by dsimp only; omega⟩
    have := congrArg List.tail hd
    simpa [inl] using this
theorem total_s2 {p : A_Paragraph} (hv : Pv p) {G : List Nat} (hG : RPath p 0 G) (hl : G.length ≤ 4) : ∃ c, iter (g_rowbreak_sheet_total_s2 (shP p (aimP p)) (inl G)) (0, 0, 0) = some (.inr c) := by
  have hn := hv.ok.toks
  have key : ∃ e, iter (g_rowbreak_sheet_total_s2 (shP p (aimP p)) (inl G)) (0, 0, 0) = some e ∧ ∃ c : Int, e = .inr c := by
    refine iter_post (fun x => ∃ (k i : Nat) (L : List Nat), x.2.2 = (k : Int) ∧ x.1 = (i : Int) ∧ k + L.length = G.length ∧ (inl G).drop k = inl L ∧ RPath p i L ∧ 0 ≤ x.2.1 ∧ x.2.1 ≤ (k : Int) * 33000000) (fun x => G.length - x.2.2.toNat) (fun (e : Unit ⊕ Int) => ∃ c : Int, e = .inr c) (x := (0, 0, 0)) ⟨0, 0, G, rfl, rfl, by omega, by simp, hG, by simp, by simp⟩ (by show G.length - 0 < _; omega) ?_
    rintro ⟨a, sum, x⟩ ⟨k, i, L, hx, ha, hk, hd, hL, hs0, hs1⟩
    dsimp only at hx ha hs0 hs1 ⊢
    subst hx ha
    have hlen : (inl G).length = G.length := by simp [inl]
    unfold g_rowbreak_sheet_total_s2
    dsimp only
    rw [hlen]
    cases hL with
    | nil =>
      right
      rw [if_neg (by simp at hk ⊢; omega)]
      exact ⟨_, rfl, _, rfl⟩
    | @cons _ j L h1 h2 h3 h4 =>
      left
      simp only [List.length_cons] at hk
      have hat : atI (inl G) (k : Int) = some (j : Int) := by
        have h0 : (inl G)[k]? = some (j : Int) := by
          have := congrArg (·[0]?) hd
          simpa [inl] using this
        exact getI h0
      have hc := cPr_le p i j
      rw [if_pos (by simp; omega), hat, wr64 (x := (k : Int) + 1) (by omega)]
      simp only [Option.bind_some]
      rw [fits_eq hv.ok _ (by omega) h2, h3]
      simp only [Option.bind_some, if_true]
      rw [cost_eq hv.ok h1 h2]
      simp only [Option.bind_some]
      rw [wr64 (x := sum + cPr p i j) (by omega)]
      refine ⟨_, rfl, ⟨k + 1, j, L, rfl, rfl, by omega, ?_, h4, by dsimp only; omega, by dsimp only; omega⟩, by dsimp only; omega⟩
      have := congrArg List.tail hd
      simpa [inl] using this
  obtain ⟨e, he, c, rfl⟩ := key
  exact ⟨c, he⟩
theorem rowCost_eq {p : A_Paragraph} (hv : Pv p) (hck : ckP p = 0) {G : List Nat} (hG : RPath p 0 G) (hl : (G.length : Int) ≤ p.Rows) : ∃ c, g_rowbreak_Cost p (inl G) = some (c, 0) := by
  have hn := hv.ok.toks
  have hrw := hv.rows
  have hne : 0 < p.Tokens.length := List.length_pos_iff.2 hv.ne
  obtain ⟨l1, l2⟩ := rpath_last hG hne
  obtain ⟨c, hc⟩ := total_s2 hv hG (by omega)
  have hlen : (inl G).length = G.length := by simp [inl]
  have hpos := List.length_pos_iff.2 l1
  have hat : atI (inl G) (IntKind.i64.wrap ((G.length : Int) - 1)) = some (p.Tokens.length : Int) := by
    rw [wr64 (by omega), show ((G.length : Int) - 1) = ((G.length - 1 : Nat) : Int) by omega]
    refine getI ?_
    rw [List.getLast?_eq_getElem?] at l2
    simp [inl, l2]
  refine ⟨c, ?_⟩
  have hz : ((G.length : Int) == 0) = false := by simpa using (by omega : ¬ (G.length : Int) = 0)
  have hp : (shP p (aimP p)).p_ = p := rfl
  have hle : decide (p.Rows < (G.length : Int)) = false := by simp; omega
  simp only [g_rowbreak_Cost, par_prog hv.ok, hck, open_eq hv.ok, g_rowbreak_sheet_total, g_rowbreak_sheet_n, hp, hlen, hz, hat, total_s1 hn hG (by omega), hle, hc, Option.bind_some, bne_self_eq_false, Bool.false_eq_true, if_false]
end Go.Proofs.YtalfcmgcjdkolaaGreatDoor
namespace Go.Proofs.YtalfcmgcjdkolaaGreatDoor
set_option maxRecDepth 100000
set_option maxHeartbeats 10000000
theorem wd4 : ∀ l : List UInt8, (decL l).2 ≤ 4
  | [] => by decide
  | a :: r => by
    unfold decL
    dsimp only
    repeat' split
    all_goals (first | decide | simp)
theorem len4 : ∀ (n : Nat) (l : List UInt8), l.length ≤ n → l.length ≤ 4 * (rnL l).length
  | 0, l, h => by omega
  | n + 1, l, h => by
    by_cases hl : l = []
    · subst hl; simp
    · have hw := decL_wd hl
      have h4 := wd4 l
      have hp := List.length_pos_iff.2 hl
      have ih := len4 n (l.drop (decL l).2) (by simp; omega)
      rw [rnL_ne hl, List.length_cons]
      simp only [List.length_drop] at ih
      omega
def joinT (l : List A_Token) : List UInt8 := Lib.join (l.map (·.Text)) [32]
def spT (l : List A_Token) : List UInt8 := (l.map fun t => t.Text ++ [32]).flatten
theorem tail_sp : ∀ l : List A_Token, Lib.joinTail [32] (l.map (·.Text)) ++ [32] = [32] ++ spT l
  | [] => rfl
  | t :: l => by
    have ih := tail_sp l
    simp only [Lib.joinTail, List.map_cons, List.flatten_cons, spT] at ih ⊢
    rw [List.append_assoc, ih]
    simp
theorem join_sp {l : List A_Token} (h : l ≠ []) : joinT l ++ [32] = spT l := by
  cases l with
  | nil => exact absurd rfl h
  | cons t l =>
    unfold joinT
    rw [List.map_cons, Lib.join_cons, List.append_assoc, tail_sp]
    simp [spT]
theorem tail_ch : ∀ l : List A_Token, (∀ t ∈ l, gv t.Text = true) → gv (Lib.joinTail [32] (l.map (·.Text))) = true ∧ chL (Lib.joinTail [32] (l.map (·.Text))) = (l.map fun t => chL t.Text).sum + l.length
  | [], _ => by
    have : gv ([] : List UInt8) = true := gv_nil
    refine ⟨this, ?_⟩
    show chL [] = _
    simp [chL, gv_nil, rnL_nil]
  | t :: l, h => by
    obtain ⟨a1, a2⟩ := tail_ch l (fun u hu => h u (by simp [hu]))
    have ht := h t (by simp)
    obtain ⟨s1, s2⟩ := chL_sp
    obtain ⟨b1, b2⟩ := chL_app s2 ht
    obtain ⟨c1, c2⟩ := chL_app b2 a1
    have e : Lib.joinTail [32] ((t :: l).map (·.Text)) = ([32] ++ t.Text) ++ Lib.joinTail [32] (l.map (·.Text)) := by simp [Lib.joinTail]
    rw [e]
    refine ⟨c2, ?_⟩
    rw [c1, b1, s1, a2]
    simp only [List.map_cons, List.sum_cons, List.length_cons]
    omega
theorem join_ch {l : List A_Token} (hne : l ≠ []) (h : ∀ t ∈ l, gv t.Text = true) : gv (joinT l) = true ∧ chL (joinT l) = (l.map fun t => chL t.Text).sum + l.length - 1 := by
  cases l with
  | nil => exact absurd rfl hne
  | cons t l =>
    obtain ⟨a1, a2⟩ := tail_ch l (fun u hu => h u (by simp [hu]))
    obtain ⟨b1, b2⟩ := chL_app (h t (by simp)) a1
    unfold joinT
    rw [List.map_cons, Lib.join_cons]
    refine ⟨b2, ?_⟩
    rw [b1, a2]
    simp only [List.map_cons, List.sum_cons, List.length_cons]
    omega
theorem gv_len {l : List UInt8} (h : gv l = true) {m : Int} (hm : chL l ≤ m) : (l.length : Int) ≤ 4 * m := by
  have := len4 l.length l (Nat.le_refl _)
  unfold chL at hm
  rw [if_pos h] at hm
  omega
def seg (p : A_Paragraph) (i j : Nat) : List A_Token := (p.Tokens.drop i).take (j - i)
theorem seg_len {p : A_Paragraph} {i j : Nat} (hj : j ≤ p.Tokens.length) : (seg p i j).length = j - i := by simp [seg]; omega
theorem seg_sum {p : A_Paragraph} {i j : Nat} (hij : i ≤ j) (hj : j ≤ p.Tokens.length) : ((seg p i j).map fun t => chL t.Text).sum = smP p j - smP p i := by
  rw [smP_sum p j hj, smP_sum p i (by omega)]
  have e : p.Tokens.take j = p.Tokens.take i ++ seg p i j := by
    unfold seg
    conv => lhs; rw [← List.take_append_drop i p.Tokens]
    rw [List.take_append, List.length_take, show min i p.Tokens.length = i by omega, List.take_take, show min j i = i by omega]
  rw [e, List.map_append, List.sum_append]
  omega
theorem seg_row {p : A_Paragraph} (hv : Pv p) {i j : Nat} (hij : i < j) (hj : j ≤ p.Tokens.length) : seg p i j ≠ [] ∧ gv (joinT (seg p i j)) = true ∧ chL (joinT (seg p i j)) = lnP p i j := by
  have hl := seg_len (p := p) (i := i) hj
  have hne : seg p i j ≠ [] := fun e => by rw [e] at hl; simp at hl; omega
  have hg : ∀ t ∈ seg p i j, gv t.Text = true := fun t ht => (hv.tok t (List.mem_of_mem_drop (List.mem_of_mem_take ht))).2.1
  obtain ⟨a, b⟩ := join_ch hne hg
  refine ⟨hne, a, ?_⟩
  rw [b, seg_sum (by omega) hj, hl]
  unfold lnP
  omega
def rowsT (p : A_Paragraph) : Nat → List Nat → List (List UInt8)
  | _, [] => []
  | i, j :: L => joinT (seg p i j) :: rowsT p j L
theorem rowsT_len (p : A_Paragraph) : ∀ (i : Nat) (L : List Nat), (rowsT p i L).length = L.length
  | _, [] => rfl
  | i, j :: L => by simp [rowsT, rowsT_len p j L]
theorem rows_sp {p : A_Paragraph} (hv : Pv p) : ∀ {i : Nat} {L : List Nat}, RPath p i L → ((rowsT p i L).map (· ++ [32])).flatten = spT (p.Tokens.drop i) := by
  intro i L h
  induction h with
  | nil => simp [rowsT, spT]
  | @cons i j L h1 h2 h3 h4 ih =>
    obtain ⟨a, _, _⟩ := seg_row hv h1 h2
    simp only [rowsT, List.map_cons, List.flatten_cons]
    rw [ih, join_sp a]
    have e : p.Tokens.drop i = seg p i j ++ p.Tokens.drop j := by
      unfold seg
      conv => lhs; rw [← List.take_append_drop (j - i) (p.Tokens.drop i)]
      rw [List.drop_drop, show i + (j - i) = j by omega]
    rw [e]
    simp [spT]
theorem rows_fit {p : A_Paragraph} (hv : Pv p) : ∀ {i : Nat} {L : List Nat}, RPath p i L → ∀ t ∈ rowsT p i L, gv t = true ∧ chL t ≤ p.Width := by
  intro i L h
  induction h with
  | nil => simp [rowsT]
  | @cons i j L h1 h2 h3 h4 ih =>
    intro t ht
    obtain ⟨_, b, c⟩ := seg_row hv h1 h2
    simp only [rowsT, List.mem_cons] at ht
    rcases ht with rfl | ht
    · refine ⟨b, ?_⟩
      rw [c]
      unfold fitP at h3
      simpa using h3
    · exact ih t ht
theorem join_prog {l : List A_Token} (hn : l.length ≤ 8) (hj : (joinT l).length ≤ 140737488355328) : g_token_Join l = some (joinT l) := by
  unfold g_token_Join
  rw [mkI_nat 16 l.length _ (by omega) (by omega)]
  simp only [Option.bind_some]
  have key : iter (g_token_Join_s1 l) (0, List.replicate l.length []) = some (l.map (·.Text)) := by
    refine iter_of (fun x e => e = l.map (·.Text) ∧ ∃ i : Nat, x.1 = (i : Int) ∧ i ≤ l.length ∧ x.2 = (l.take i).map (·.Text) ++ List.replicate (l.length - i) []) (fun x => l.length - x.1.toNat) ?_ (x := (0, _)) ⟨rfl, 0, rfl, by omega, by simp⟩ (by show l.length - 0 < _; omega)
    rintro ⟨x, m⟩ e ⟨rfl, i, hx, hi, hm⟩
    dsimp only at hx hm ⊢
    subst hx hm
    unfold g_token_Join_s1
    dsimp only
    have hA : ((l.take i).map (·.Text)).length = i := by simp; omega
    by_cases h : i < l.length
    · left
      obtain ⟨k, hk⟩ : ∃ k, l.length - i = k + 1 := ⟨l.length - i - 1, by omega⟩
      rw [hk, List.replicate_succ, if_pos (by simpa using h), atI_nat h]
      simp only [Option.bind_some]
      rw [setI_nat _ (by simp; omega), wr64 (x := (i : Int) + 1) (by omega)]
      simp only [Option.bind_some]
      rw [atI_nat (by simp; omega)]
      simp only [Option.bind_some]
      refine ⟨_, rfl, ⟨by first | rfl | trivial, i + 1, rfl, h, ?_⟩, by dsimp only; omega⟩
      dsimp only
      rw [List.set_append_right _ _ (by omega), hA, Nat.sub_self, show l.length - (i + 1) = k by omega]
      simp only [List.map_take]
      rw [List.take_succ_eq_append_getElem (l := l.map (·.Text)) (by simpa using h)]
      simp
    · right
      obtain rfl : i = l.length := by omega
      rw [if_neg (by simp)]
      simp
  rw [key]
  simp only [Option.bind_some, g_strings_Join]
  rw [if_pos ⟨by simp; omega, hj⟩]
  rfl
theorem rows_prog {p : A_Paragraph} (hv : Pv p) (hck : ckP p = 0) {G : List Nat} (hG : RPath p 0 G) (hl : (G.length : Int) ≤ p.Rows) : g_rowbreak_Rows p (inl G) = some (rowsT p 0 G, 0) := by
  have hn := hv.ok.toks
  have hrw := hv.rows
  have hwid := hv.width
  obtain ⟨c, hc⟩ := rowCost_eq hv hck hG hl
  have hlen : (inl G).length = G.length := by simp [inl]
  have key : iter (g_rowbreak_Rows_s1 p (inl G)) ([], 0, 0) = some (rowsT p 0 G) := by
    refine iter_of (fun x e => e = rowsT p 0 G ∧ ∃ (k i : Nat) (L : List Nat), x.2.2 = (k : Int) ∧ x.2.1 = (i : Int) ∧ k + L.length = G.length ∧ (inl G).drop k = inl L ∧ RPath p i L ∧ x.1 ++ rowsT p i L = rowsT p 0 G ∧ x.1.length = k) (fun x => G.length - x.2.2.toNat) ?_ (x := ([], 0, 0)) ⟨rfl, 0, 0, G, rfl, rfl, by omega, by simp, hG, rfl, rfl⟩ (by show G.length - 0 < _; omega)
    rintro ⟨out, a, x⟩ e ⟨rfl, k, i, L, hx, ha, hk, hd, hL, ho, hol⟩
    dsimp only at hx ha ho hol ⊢
    subst hx ha
    unfold g_rowbreak_Rows_s1
    dsimp only
    rw [hlen]
    cases hL with
    | nil =>
      right
      rw [if_neg (by simp at hk ⊢; omega), ← ho]
      simp [rowsT]
    | @cons _ j L h1 h2 h3 h4 =>
      left
      simp only [List.length_cons] at hk
      have hat : atI (inl G) (k : Int) = some (j : Int) := by
        have h0 : (inl G)[k]? = some (j : Int) := by
          have := congrArg (·[0]?) hd
          simpa [inl] using this
        exact getI h0
      have hsub : subI p.Tokens (i : Int) (j : Int) = some (seg p i j) := by
        unfold subI seg
        rw [if_pos (by omega)]
        simp only [Int.toNat_natCast]
      obtain ⟨s1, s2, s3⟩ := seg_row hv h1 h2
      have hfit : lnP p i j ≤ p.Width := by unfold fitP at h3; simpa using h3
      have hb := gv_len s2 (m := 32) (by omega)
      rw [if_pos (by simp; omega), hat, wr64 (x := (k : Int) + 1) (by omega)]
      simp only [Option.bind_some]
      rw [hsub]
      simp only [Option.bind_some]
      rw [join_prog (by rw [seg_len h2]; omega) (by omega)]
      simp only [Option.bind_some]
      rw [if_pos (by omega)]
      refine ⟨_, rfl, ⟨by first | rfl | trivial, k + 1, j, L, rfl, rfl, by omega, ?_, h4, ?_, by simp [hol]⟩, by dsimp only; omega⟩
      · have := congrArg List.tail hd
        simpa [inl] using this
      · dsimp only
        rw [← ho]
        simp [rowsT]
  simp only [g_rowbreak_Rows, hc, key, Option.bind_some, bne_self_eq_false, Bool.false_eq_true, if_false]
end Go.Proofs.YtalfcmgcjdkolaaGreatDoor
namespace Go.Proofs.YtalfcmgcjdkolaaGreatDoor
set_option maxRecDepth 100000
set_option maxHeartbeats 10000000
def rowE (t : List UInt8) : A_Row := ⟨[⟨t, ⟨0, false, false⟩, []⟩]⟩
theorem len_row {t : List UInt8} (h : gv t = true) (hl : t.length ≤ 1000) : g_style_Len (rowE t) = some (chL t) := by
  have hc : 0 ≤ chL t ∧ chL t ≤ 1000 := by
    have hr : (rnL t).length ≤ t.length := rnL_len _ t (Nat.le_refl _)
    unfold chL
    rw [if_pos h]
    omega
  have key : iter (g_style_Len_s1 (rowE t)) (0, 0) = some (.inr (chL t)) := by
    refine iter_of (fun x e => e = .inr (chL t) ∧ (x = (0, 0) ∨ x = (chL t, 1))) (fun x => 2 - x.2.toNat) ?_ (x := (0, 0)) ⟨rfl, .inl rfl⟩ (by decide)
    rintro ⟨a, x⟩ e ⟨rfl, h1 | h1⟩
    · cases h1
      left
      unfold g_style_Len_s1
      dsimp only
      rw [if_pos (by simp [rowE]), show atI (rowE t).Runs 0 = some ⟨t, ⟨0, false, false⟩, []⟩ from rfl]
      simp only [Option.bind_some]
      rw [len_prog t (by omega)]
      simp only [Option.bind_some]
      rw [if_neg (by simp; omega), Int.zero_add, Int.zero_add, wr64 (x := chL t) (by omega), wr64 (x := 1) (by omega)]
      exact ⟨_, rfl, ⟨by first | rfl | trivial, .inr rfl⟩, by show 2 - 1 < 2 - 0; omega⟩
    · cases h1
      right
      unfold g_style_Len_s1
      dsimp only
      rw [if_neg (by simp [rowE])]
  simp only [g_style_Len, key, Option.bind_some]
theorem plain_row {t : List UInt8} (hl : t.length ≤ 1000) : g_style_Plain (rowE t) = some t := by
  have key : iter (g_style_Plain_s1 (rowE t)) (0, []) = some (toI t) := by
    refine iter_of (fun x e => e = toI t ∧ (x = (0, []) ∨ x = (1, toI t))) (fun x => 2 - x.1.toNat) ?_ (x := (0, [])) ⟨rfl, .inl rfl⟩ (by decide)
    rintro ⟨x, a⟩ e ⟨rfl, h1 | h1⟩
    · cases h1
      left
      unfold g_style_Plain_s1
      dsimp only
      rw [if_pos (by simp [rowE]), show atI (rowE t).Runs 0 = some ⟨t, ⟨0, false, false⟩, []⟩ from rfl]
      simp only [Option.bind_some]
      rw [if_pos (by simp; omega), Int.zero_add, wr64 (x := 1) (by omega), List.nil_append]
      exact ⟨_, rfl, ⟨by first | rfl | trivial, .inr rfl⟩, by show 2 - 1 < 2 - 0; omega⟩
    · cases h1
      right
      unfold g_style_Plain_s1
      dsimp only
      rw [if_neg (by simp [rowE])]
  simp only [g_style_Plain, key, Option.bind_some, bytesOf_toI]
theorem evRows_prog {R : List (List UInt8)} {z : Int} (hR : R.length ≤ 1000) : iter (g_segment_Events_s2 (R, z)) (0, []) = some (R.map rowE) := by
  refine iter_of (fun x e => e = R.map rowE ∧ ∃ i : Nat, x.1 = (i : Int) ∧ i ≤ R.length ∧ x.2 = (R.take i).map rowE) (fun x => R.length - x.1.toNat) ?_ (x := (0, _)) ⟨rfl, 0, rfl, by omega, by simp⟩ (by show R.length - 0 < _; omega)
  rintro ⟨x, m⟩ e ⟨rfl, i, hx, hi, hm⟩
  dsimp only at hx hm ⊢
  subst hx hm
  unfold g_segment_Events_s2
  dsimp only
  by_cases h : i < R.length
  · left
    rw [if_pos (by simpa using h), atI_nat h, wr64 (x := (i : Int) + 1) (by omega)]
    simp only [Option.bind_some]
    rw [if_pos (by simp; omega)]
    refine ⟨_, rfl, ⟨by first | rfl | trivial, i + 1, rfl, h, ?_⟩, by dsimp only; omega⟩
    dsimp only
    rw [List.take_succ_eq_append_getElem h, List.map_append]
    rfl
  · right
    obtain rfl : i = R.length := by omega
    rw [if_neg (by simp)]
    simp
end Go.Proofs.YtalfcmgcjdkolaaGreatDoor
namespace Go.Proofs.YtalfcmgcjdkolaaGreatDoor
set_option maxRecDepth 100000
set_option maxHeartbeats 10000000
def evR (s : A_Speech) (q : Nat × Nat) : List (List UInt8) := rowsT (psp s q.1 q.2) 0 ((pq s q.1 q.2).1.Breaks.map Int.toNat)
def evOf (s : A_Speech) (a : (Nat × Nat) × Nat) : A_Event := ⟨(a.2 : Int) + 1, (pq s a.1.1 a.1.2).1.Span, [], 1, [], (evR s a.1).map rowE⟩
theorem inl_nat (G : List Nat) : (inl G).map Int.toNat = G := by
  unfold inl
  rw [List.map_map]
  exact (List.map_congr_left (fun x _ => by simp)).trans (List.map_id G)
theorem part_rows {s : A_Speech} (hs : Sv s) {q : Nat × Nat} (h1 : q.1 < q.2) (h2 : q.2 ≤ s.Words.length) (ho : okE s q.1 q.2 = true) :
    g_rowbreak_Rows (psp s q.1 q.2) (pq s q.1 q.2).1.Breaks = some (evR s q, 0) ∧ ((evR s q).length : Int) ≤ s.House.Rows ∧ (evR s q).length ≤ 4 ∧ (∀ t ∈ evR s q, gv t = true ∧ chL t ≤ s.House.Cols) ∧ ((evR s q).map (· ++ [32])).flatten = spT (tkP s.Words q.1 q.2) := by
  obtain ⟨_, _, h⟩ := pq_eq hs h1 h2
  have h0 : (pq s q.1 q.2).2.2 = 0 := by simpa [okE] using ho
  obtain ⟨_, _, _, _, _, ⟨ck, G, g1, g2, g3⟩, _⟩ := h h0
  have hv := ckP_0 (psp_ok hs.ok (i := q.1) h2) ck
  have e : evR s q = rowsT (psp s q.1 q.2) 0 G := by unfold evR; rw [g1, inl_nat]
  have hr : 1 ≤ s.House.Rows ∧ s.House.Rows ≤ 4 := hv.rows
  rw [e, g1]
  refine ⟨rows_prog hv ck g2 g3, by rw [rowsT_len]; exact g3, by rw [rowsT_len]; omega, rows_fit hv g2, ?_⟩
  rw [rows_sp hv g2]
  rfl
theorem sub_tk {s : A_Speech} {i j : Nat} (hij : i < j) (hj : j ≤ s.Words.length) : subI (tks s.Words) (i : Int) (j : Int) = some (tkP s.Words i j) := by
  have := tks_len s.Words
  unfold subI tkP
  rw [if_pos (by omega)]
  simp only [Int.toNat_natCast]
theorem evs_prog {s : A_Speech} (hs : Sv s) {L : List (Nat × Nat)} {c e : Int} (hn : L.length ≤ 10) (hL : ∀ q ∈ L, q.1 < q.2 ∧ q.2 ≤ s.Words.length ∧ okE s q.1 q.2 = true) :
    iter (g_segment_Events_s1 s (L.map (fun q => (pq s q.1 q.2).1), c, e) (tks s.Words)) ([], 0) = some (L.zipIdx.map (evOf s)) := by
  refine iter_of (fun x e => e = L.zipIdx.map (evOf s) ∧ ∃ i : Nat, x.2 = (i : Int) ∧ i ≤ L.length ∧ x.1 = (L.zipIdx.take i).map (evOf s)) (fun x => L.length - x.2.toNat) ?_ (x := (_, 0)) ⟨rfl, 0, rfl, by omega, by simp⟩ (by show L.length - 0 < _; omega)
  rintro ⟨m, x⟩ e ⟨rfl, i, hx, hi, hm⟩
  dsimp only at hx hm ⊢
  subst hx hm
  unfold g_segment_Events_s1
  dsimp only
  rw [List.length_map]
  by_cases h : i < L.length
  · left
    obtain ⟨a1, a2, a3⟩ := hL L[i] (List.getElem_mem h)
    obtain ⟨b1, b2, b3, b4, b5⟩ := part_rows hs a1 a2 a3
    obtain ⟨_, _, hp⟩ := pq_eq hs a1 a2
    obtain ⟨c1, c2, _⟩ := hp (by simpa [okE] using a3)
    rw [if_pos (by simpa using h), show atI (L.map (fun q => (pq s q.1 q.2).1)) (i : Int) = some (pq s L[i].1 L[i].2).1 by rw [atI_nat (by simpa using h)]; simp, wr64 (x := (i : Int) + 1) (by omega)]
    simp only [Option.bind_some]
    rw [c1, c2, sub_tk a1 a2]
    simp only [Option.bind_some, g_segment_paragraph]
    rw [show (A_Paragraph.mk (tkP s.Words L[i].1 L[i].2) s.House.Cols s.House.Rows s.Table) = psp s L[i].1 L[i].2 from rfl, b1]
    simp only [Option.bind_some]
    rw [evRows_prog (by omega)]
    simp only [Option.bind_some]
    rw [if_pos (by simp; omega)]
    refine ⟨_, rfl, ⟨by first | rfl | trivial, i + 1, rfl, h, ?_⟩, by dsimp only; omega⟩
    dsimp only
    rw [List.take_succ_eq_append_getElem (by simpa using h), List.map_append]
    simp [evOf]
  · right
    obtain rfl : i = L.length := by omega
    rw [if_neg (by simp)]
    rw [List.take_of_length_le (by simp)]
end Go.Proofs.YtalfcmgcjdkolaaGreatDoor
namespace Go.Proofs.YtalfcmgcjdkolaaGreatDoor
set_option maxRecDepth 100000
set_option maxHeartbeats 10000000
theorem pa_adj {n a : Nat} {L : List (Nat × Nat)} (h : Pa n a L) : ∀ k (hk : k + 1 < L.length), L[k].2 = (L[k + 1]).1 := by
  induction h with
  | nil => intro k hk; simp at hk
  | @cons i j L h1 h2 h3 ih =>
    intro k hk
    cases k with
    | zero =>
      cases h3 with
      | nil => simp at hk
      | cons => rfl
    | succ k => simpa using ih k (by simpa using hk)
theorem span_ok {s : A_Speech} (hs : Sv s) {q r : Nat × Nat} (h1 : q.1 < q.2) (h2 : q.2 = r.1) (h3 : r.1 < r.2) (h4 : r.2 ≤ s.Words.length) (o1 : okE s q.1 q.2 = true) (o2 : okE s r.1 r.2 = true) : (pq s q.1 q.2).1.Span.Out ≤ (pq s r.1 r.2).1.Span.In := by
  obtain ⟨_, _, ha⟩ := pq_eq hs h1 (by omega : q.2 ≤ s.Words.length)
  obtain ⟨_, _, hb⟩ := pq_eq hs h3 h4
  obtain ⟨_, _, _, _, _, _, e1⟩ := ha (by simpa [okE] using o1)
  obtain ⟨_, _, _, _, _, _, e2⟩ := hb (by simpa [okE] using o2)
  rw [e1, e2]
  dsimp only
  rw [wAt_eq (by omega), wAt_eq (by omega)]
  have := (ckWs_at hs.words r.1 (by omega)).2.1 (by omega)
  simpa only [h2] using this
end Go.Proofs.YtalfcmgcjdkolaaGreatDoor

namespace Go.Proofs.YtalfcmgcjdkolaaGreatDoor
open Go.RowKit
set_option maxRecDepth 100000
def g_strings_Contains2 (s t : List UInt8) : Option Bool := if s.length < 4294967281 then some (Lib.contains s t) else none
theorem a_strings_Contains2 (I : World → Prop) (hI : Stab I) (hShp : ∀ w, I w → Shp w) (s t : List UInt8) {r : Bool} (h : g_strings_Contains2 s t = some r) : AFun Tryz.prog I 81 [.str s, .str t] (.bool r) := by
  obtain ⟨hs, h⟩ := ite_on h
  obtain rfl := Option.some.inj h
  refine AFun.of_calls (v := .bool (Lib.contains s t)) (by kernel_rfl) (fun w F => .bool _) ?_
  intro w F args hIw _ hl hr
  match args, hl with
  | [v, u], _ =>
    obtain ⟨rfl, _⟩ := rep_str1 (hr 0 v _ rfl rfl)
    obtain ⟨rfl, _⟩ := rep_str1 (hr 1 u _ rfl rfl)
    obtain ⟨m, hm⟩ := hShp w hIw
    refine (Tryz.strings_Contains ⟨s.toArray⟩ ⟨t.toArray⟩ m w (by simpa [ByteArray.size] using hs) hm).mono ?_
    rintro e w' ⟨rfl, rfl⟩
    exact ⟨rfl, Below.refl _ _⟩
end Go.Proofs.YtalfcmgcjdkolaaGreatDoor
namespace Go.Proofs.YtalfcmgcjdkolaaGreatDoor
open Go.RowKit
set_option maxRecDepth 100000
set_option maxHeartbeats 10000000
structure A_Region where
 Name : List UInt8
 Top : Int
 Height : Int
 Left : Int
 Width : Int
 Align : Int
 Bottom : Bool
 deriving DecidableEq
def A_Region.d (x : A_Region) : D := .agg [.str x.Name, .int .i64 x.Top, .int .i64 x.Height, .int .i64 x.Left, .int .i64 x.Width, .int .u8 x.Align, .bool x.Bottom]
structure A_Comment where
 ID : Int
 Event : Int
 From : Int
 To : Int
 Author : List UInt8
 Text : List UInt8
 Done : Bool
 Lost : Bool
 deriving DecidableEq
def A_Comment.d (x : A_Comment) : D := .agg [.int .i64 x.ID, .int .i64 x.Event, .int .i64 x.From, .int .i64 x.To, .str x.Author, .str x.Text, .bool x.Done, .bool x.Lost]
structure A_Document where
 Title : List UInt8
 Lang : List UInt8
 Rate : Int
 Drop : Bool
 Last : Int
 Regions : List A_Region
 Events : List A_Event
 Comments : List A_Comment
 deriving DecidableEq
def A_Document.d (x : A_Document) : D := .agg [.str x.Title, .str x.Lang, .int .u8 x.Rate, .bool x.Drop, .int .i64 x.Last, .sl (x.Regions.map A_Region.d), .sl (x.Events.map A_Event.d), .sl (x.Comments.map A_Comment.d)]
structure A_Spot where
 Row : Int
 Col : Int
 Len : Int
 deriving DecidableEq
def A_Spot.d (x : A_Spot) : D := .agg [.int .i64 x.Row, .int .i64 x.Col, .int .i64 x.Len]
theorem dd_EP : (∀ x, T_timebase_rate.d x = .agg [.str x.name_, .int .i64 x.ticks_, .int .i64 x.nominal_, .bool x.drop_]) ∧ (∀ x, A_Region.d x = .agg [.str x.Name, .int .i64 x.Top, .int .i64 x.Height, .int .i64 x.Left, .int .i64 x.Width, .int .u8 x.Align, .bool x.Bottom]) ∧ (∀ x, A_Span.d x = .agg [.int .i64 x.In, .int .i64 x.Out]) ∧ (∀ x, A_Style.d x = .agg [.int .u8 x.Color, .bool x.Italic, .bool x.Underline]) ∧ (∀ x, A_Run.d x = .agg [.str x.Text, .int .u8 x.Style.Color, .bool x.Style.Italic, .bool x.Style.Underline, .str x.Ruby]) ∧ (∀ x, A_Row.d x = .agg [.sl (x.Runs.map A_Run.d)]) ∧ (∀ x, A_Event.d x = .agg [.int .i64 x.ID, .int .i64 x.Span.In, .int .i64 x.Span.Out, .str x.Region, .int .u8 x.Kind, .str x.Speaker, .sl (x.Rows.map A_Row.d)]) ∧ (∀ x, A_Comment.d x = .agg [.int .i64 x.ID, .int .i64 x.Event, .int .i64 x.From, .int .i64 x.To, .str x.Author, .str x.Text, .bool x.Done, .bool x.Lost]) ∧ (∀ x, A_Document.d x = .agg [.str x.Title, .str x.Lang, .int .u8 x.Rate, .bool x.Drop, .int .i64 x.Last, .sl (x.Regions.map A_Region.d), .sl (x.Events.map A_Event.d), .sl (x.Comments.map A_Comment.d)]) ∧ (∀ x, A_Spot.d x = .agg [.int .i64 x.Row, .int .i64 x.Col, .int .i64 x.Len]) := ⟨fun _ => rfl, fun _ => rfl, fun _ => rfl, fun _ => rfl, fun _ => rfl, fun _ => rfl, fun _ => rfl, fun _ => rfl, fun _ => rfl, fun _ => rfl⟩
def g_timebase_CanDrop (r_0 : Int) : Option (Bool) :=
 ((g_timebase_of r_0).bind fun r7 => (some r7.drop_))
theorem a_timebase_CanDrop {I : World → Prop} (hI : Stab I) {r_0 : Int} {r : Bool} (h : g_timebase_CanDrop r_0 = some r) : AFun Tryz.prog I 136 [.int .u8 r_0] (.bool r) := by
 have dd := dd_EP; have k := True.intro; have q := k; have rs := Tryz.results136
 unfold g_timebase_CanDrop at h
 refine .en hI Tryz.func136 Tryz.ntmps136 ?_
 refine xs <| rz ?_
 refine es <| xs <| rK fun K6 RK6 hK6 gK6 => zz ?_
 obtain ⟨r7, h8, h⟩ := bs h
 refine cw (a_timebase_of hI h8) <| zz ?_
 subst hK6 gK6
 refine es <| xr ?_
 cases h
 exact en fr
def g_document_rate (r_0 : Int) (drop_1 : Bool) : Option (Int) :=
 ((g_timebase_Valid r_0).bind fun r11 => (if r11 then (if drop_1 then ((g_timebase_CanDrop r_0).bind fun r15 => (if r15 then (some 0) else (some 13))) else (some 0)) else (some 13)))
theorem a_document_rate {I : World → Prop} (hI : Stab I) {r_0 : Int} {drop_1 : Bool} {r : Int} (h : g_document_rate r_0 drop_1 = some r) : AFun Tryz.prog I 100 [.int .u8 r_0, .bool drop_1] (.int .i64 r) := by
 have dd := dd_EP; have k := True.intro; have q := k; have rs := Tryz.results100
 unfold g_document_rate at h
 refine .en hI Tryz.func100 Tryz.ntmps100 ?_
 refine xs <| rz ?_
 refine es <| xs <| xs <| rK fun K10 RK10 hK10 gK10 => zz ?_
 obtain ⟨r11, h12, h⟩ := bs h
 refine cw (a_timebase_Valid hI h12) <| zz ?_
 rcases iK k h with ⟨k, h⟩ | ⟨k, h⟩
 ·refine zz ?_
  rcases iK k h with ⟨k, h⟩ | ⟨k, h⟩
  ·refine zz ?_
   obtain ⟨r15, h16, h⟩ := bs h
   refine cw (a_timebase_CanDrop hI h16) <| zz ?_
   subst hK10 gK10
   refine es ?_
   rcases iK k h with ⟨k, h⟩ | ⟨k, h⟩
   ·refine xf <| xk <| es <| xs <| rz ?_
    refine es <| xr ?_
    cases h
    exact en fr
   ·refine xt <| xs <| rz ?_
    refine es <| xr <| er ?_
    cases h
    exact en fr
  ·refine zz ?_
   subst hK10 gK10
   refine es <| xf <| xk <| es <| xs <| rz ?_
   refine es <| xr ?_
   cases h
   exact en fr
 ·refine zz ?_
  subst hK10 gK10
  refine es <| xt <| xs <| rz ?_
  refine es <| xr <| er ?_
  cases h
  exact en fr
def g_document_header (d_0 : A_Document) : Option (Int) :=
 ((((g_charset_Valid d_0.Title).bind fun r33 => (if r33 then (if (decide (400 < (d_0.Title.length : Int))) then (some (.out 9)) else (if (d_0.Lang == ([] : List UInt8)) then (some (.go ())) else ((g_lines_Name d_0.Lang).bind fun r47 => (if r47 then (some (.go ())) else (some (.out 5)))))) else (some (.out 10)))) : Option (Nx (Unit) (Int))).bind fun w55 => match w55 with | .go v28 => ((g_document_rate d_0.Rate d_0.Drop).bind fun r61 => (if (r61 != 0) then (some r61) else (if (decide (d_0.Last < 0)) then (some 2) else (if (decide (1099511627776 < d_0.Last)) then (some 2) else (some 0))))) | .out e56 => (some e56))
theorem a_document_header {I : World → Prop} (hI : Stab I) (hU8T : ∀ w, I w → U8T w) {d_0 : A_Document} {r : Int} (h : g_document_header d_0 = some r) : AFun Tryz.prog I 60 [A_Document.d d_0] (.int .i64 r) := by
 have dd := dd_EP; have k := True.intro; have q := k; have rs := Tryz.results60
 unfold g_document_header at h
 refine .en hI Tryz.func60 Tryz.ntmps60 ?_
 refine xs <| rz ?_
 refine es ?_
 obtain ⟨w55, h54, h⟩ := bs h
 refine rb_seg (fun v28 => ⟨envL [(1, .ptr 0 0)], heapL [(0, .box none [.str d_0.Title, .str d_0.Lang, .int .u8 d_0.Rate, .bool d_0.Drop, .int .i64 d_0.Last, .sl (d_0.Regions.map A_Region.d), .sl (d_0.Events.map A_Event.d), .sl (d_0.Comments.map A_Comment.d)])], 1, 40⟩) (fun _ => .ret) (fun e56 => ⟨envL [(2, .int .i64 e56)], heapL [], 0, 40⟩) h54 (by intro w; simp) ?_ ?_ ?_
 ·clear h
  intro w55 h
  refine xb <| xs <| rK fun K32 RK32 hK32 gK32 => zz ?_
  obtain ⟨r33, h34, h⟩ := bs h
  refine cw (a_charset_Valid hI hU8T h34) <| zz ?_
  subst hK32 gK32
  refine es ?_
  rcases iK k h with ⟨k, h⟩ | ⟨k, h⟩
  ·refine xf <| xs <| rz ?_
   refine es ?_
   rcases iK k h with ⟨k, h⟩ | ⟨k, h⟩
   ·refine xt <| xs <| rz ?_
    refine es <| xr <| br ?_
    cases h
    exact en ⟨rfl, wk []⟩
   ·refine xf <| xs <| rK fun K45 RK45 hK45 gK45 => zz ?_
    rcases iK k h with ⟨k, h⟩ | ⟨k, h⟩
    ·refine zz ?_
     subst hK45 gK45
     refine es <| xf <| xk <| bn ?_
     cases h
     exact en ⟨rfl, wk []⟩
    ·refine zz ?_
     obtain ⟨r47, h48, h⟩ := bs h
     refine cw (a_lines_Name hI h48) <| zz ?_
     subst hK45 gK45
     refine es ?_
     rcases iK k h with ⟨k, h⟩ | ⟨k, h⟩
     ·refine xf <| xk <| bn ?_
      cases h
      exact en ⟨rfl, wk []⟩
     ·refine xt <| xs <| rz ?_
      refine es <| xr <| br ?_
      cases h
      exact en ⟨rfl, wk []⟩
  ·refine xt <| xs <| rz ?_
   refine es <| xr <| br ?_
   cases h
   exact en ⟨rfl, wk []⟩
 ·rintro v28 rfl
  dsimp only at h
  refine xs <| xs <| rK fun K60 RK60 hK60 gK60 => zz ?_
  obtain ⟨r61, h62, h⟩ := bs h
  refine cw (a_document_rate hI h62) <| zz ?_
  subst hK60 gK60
  refine es <| xs <| rz ?_
  refine es ?_
  rcases iK k h with ⟨k, h⟩ | ⟨k, h⟩
  ·refine xt <| xs <| rz ?_
   refine es <| xr <| er ?_
   cases h
   exact en fr
  ·refine xf <| xk <| es <| xs <| xs <| rK fun K70 RK70 hK70 gK70 => zz ?_
   rcases iK k h with ⟨k, h⟩ | ⟨k, h⟩
   ·refine zz ?_
    subst hK70 gK70
    refine es <| xt <| xs <| rz ?_
    refine es <| xr <| er ?_
    cases h
    exact en fr
   ·refine zz ?_
    subst hK70 gK70
    refine es ?_
    rcases iK k h with ⟨k, h⟩ | ⟨k, h⟩
    ·refine xt <| xs <| rz ?_
     refine es <| xr <| er ?_
     cases h
     exact en fr
    ·refine xf <| xk <| es <| xs <| rz ?_
     refine es <| xr ?_
     cases h
     exact en fr
 ·rintro e56 rfl
  dsimp only at h
  cases h
  exact en fr
def g_region_from (n_0 : Int) (low_1 : Int) (high_2 : Int) : Option (Bool) :=
 (if (decide (low_1 ≤ n_0)) then (some (decide (n_0 ≤ high_2))) else (some false))
theorem a_region_from {I : World → Prop} (hI : Stab I) {n_0 : Int} {low_1 : Int} {high_2 : Int} {r : Bool} (h : g_region_from n_0 low_1 high_2 = some r) : AFun Tryz.prog I 137 [.int .i64 n_0, .int .i64 low_1, .int .i64 high_2] (.bool r) := by
 have dd := dd_EP; have k := True.intro; have q := k; have rs := Tryz.results137
 unfold g_region_from at h
 refine .en hI Tryz.func137 Tryz.ntmps137 ?_
 refine xs <| rz ?_
 refine es <| xs <| rK fun K5 RK5 hK5 gK5 => zz ?_
 rcases iK k h with ⟨k, h⟩ | ⟨k, h⟩
 ·refine zz ?_
  subst hK5 gK5
  refine es <| xr ?_
  cases h
  exact en fr
 ·refine zz ?_
  subst hK5 gK5
  refine es <| xr ?_
  cases h
  exact en fr
def g_region_Check (r_0 : A_Region) : Option (Int) :=
 ((g_lines_Name r_0.Name).bind fun r54 => (if r54 then ((((g_region_from r_0.Top 0 14).bind fun r71 => (if r71 then ((g_region_from r_0.Height 1 (IntKind.i64.wrap (15 - r_0.Top))).bind fun r74 => (if r74 then ((g_region_from r_0.Left 0 31).bind fun r77 => (if r77 then ((g_region_from r_0.Width 1 (IntKind.i64.wrap (32 - r_0.Left))).bind fun r80 => (some (!r80))) else (some true))) else (some true))) else (some true))) : Option (Bool)).bind fun v69 => (if v69 then (some 2) else (if (decide (r_0.Align < 1)) then (some 3) else (if (decide (3 < r_0.Align)) then (some 3) else (some 0))))) else (some 5)))
theorem a_region_Check {I : World → Prop} (hI : Stab I) {r_0 : A_Region} {r : Int} (h : g_region_Check r_0 = some r) : AFun Tryz.prog I 101 [A_Region.d r_0] (.int .i64 r) := by
 have dd := dd_EP; have k := True.intro; have q := k; have rs := Tryz.results101
 unfold g_region_Check at h
 refine .en hI Tryz.func101 Tryz.ntmps101 ?_
 refine xs <| rz ?_
 refine es <| xs <| xb <| xs <| rK fun K53 RK53 hK53 gK53 => zz ?_
 obtain ⟨r54, h55, h⟩ := bs h
 refine cw (a_lines_Name hI h55) <| zz ?_
 subst hK53 gK53
 refine es ?_
 rcases iK k h with ⟨k, h⟩ | ⟨k, h⟩
 ·refine xf ?_
  obtain ⟨v69, h82, h⟩ := bs h
  refine rb_cut (fun v69 => ⟨envL [(1, .ptr 0 0), (8, .bool v69)], heapL [(0, .box none [.str r_0.Name, .int .i64 r_0.Top, .int .i64 r_0.Height, .int .i64 r_0.Left, .int .i64 r_0.Width, .int .u8 r_0.Align, .bool r_0.Bottom])], 1, 46⟩) h82 ?_ ?_
  ·clear h
   intro v69 h
   refine rK fun K70 RK70 hK70 gK70 => zz ?_
   obtain ⟨r71, h72, h⟩ := bs h
   refine cw (a_region_from hI h72) <| zz ?_
   rcases iK k h with ⟨k, h⟩ | ⟨k, h⟩
   ·refine zz ?_
    obtain ⟨r74, h75, h⟩ := bs h
    refine cw (a_region_from hI h75) <| zz ?_
    rcases iK k h with ⟨k, h⟩ | ⟨k, h⟩
    ·refine zz ?_
     obtain ⟨r77, h78, h⟩ := bs h
     refine cw (a_region_from hI h78) <| zz ?_
     rcases iK k h with ⟨k, h⟩ | ⟨k, h⟩
     ·refine zz ?_
      obtain ⟨r80, h81, h⟩ := bs h
      refine cw (a_region_from hI h81) <| zz ?_
      subst hK70 gK70
      cases h
      exact en ⟨rfl, wk []⟩
     ·refine zz ?_
      subst hK70 gK70
      cases h
      exact en ⟨rfl, wk []⟩
    ·refine zz ?_
     subst hK70 gK70
     cases h
     exact en ⟨rfl, wk []⟩
   ·refine zz ?_
    subst hK70 gK70
    cases h
    exact en ⟨rfl, wk []⟩
  ·rcases iK k h with ⟨k, h⟩ | ⟨k, h⟩
   ·refine xt <| xs <| rz ?_
    refine es <| xr <| br <| er ?_
    cases h
    exact en fr
   ·refine xf <| xs <| rK fun K88 RK88 hK88 gK88 => zz ?_
    rcases iK k h with ⟨k, h⟩ | ⟨k, h⟩
    ·refine zz ?_
     subst hK88 gK88
     refine es <| xt <| xs <| rz ?_
     refine es <| xr <| br <| er ?_
     cases h
     exact en fr
    ·refine zz ?_
     subst hK88 gK88
     refine es ?_
     rcases iK k h with ⟨k, h⟩ | ⟨k, h⟩
     ·refine xt <| xs <| rz ?_
      refine es <| xr <| br <| er ?_
      cases h
      exact en fr
     ·refine xf <| xk <| bn <| es <| xs <| rz ?_
      refine es <| xr ?_
      cases h
      exact en fr
 ·refine xt <| xs <| rz ?_
  refine es <| xr <| br <| er ?_
  cases h
  exact en fr
def g_region_CheckList_s1 (l_0 : List A_Region) (x10 : Int) : Option (Nx (Int) (Int ⊕ Unit)) :=
 (if (decide (x10 < (l_0.length : Int))) then ((atI l_0 x10).bind fun y149 => ((g_region_Check y149).bind fun r155 => (if (r155 != 0) then (some (.out (.inl r155))) else (((if (decide (0 < x10)) then ((atI l_0 (IntKind.i64.wrap (x10 - 1))).bind fun y169 => (some (y149.Name == y169.Name))) else (some false)) : Option (Bool)).bind fun v166 => (if v166 then (some (.out (.inl 7))) else (if (decide (0 < x10)) then ((atI l_0 (IntKind.i64.wrap (x10 - 1))).bind fun y181 => (if (Op.bytesLess y149.Name y181.Name) then (some (.out (.inl 8))) else (some (.go (IntKind.i64.wrap (x10 + 1)))))) else (some (.go (IntKind.i64.wrap (x10 + 1)))))))))) else (some (.out (.inr ()))))
def g_region_CheckList (l_0 : List A_Region) : Option (Int) :=
 (if (decide (16 < (l_0.length : Int))) then (some 9) else ((iter (g_region_CheckList_s1 l_0) 0).bind fun e11 => (match e11 with | Sum.inl e11 => (some e11) | Sum.inr (e11) => (some 0))))
theorem a_region_CheckList {I : World → Prop} (hI : Stab I) {l_0 : List A_Region} {r : Int} (h : g_region_CheckList l_0 = some r) : AFun Tryz.prog I 61 [.sl (l_0.map A_Region.d)] (.int .i64 r) := by
 have dd := dd_EP; have k := True.intro; have q := k; have rs := Tryz.results61
 unfold g_region_CheckList at h
 refine .en hI Tryz.func61 Tryz.ntmps61 ?_
 refine xs <| rz ?_
 refine es <| xs <| xs <| rz ?_
 refine es ?_
 rcases iK k h with ⟨k, h⟩ | ⟨k, h⟩
 ·refine xt <| xs <| rz ?_
  refine es <| xr <| er ?_
  cases h
  exact en fr
 ·refine xf <| xk <| es <| xs <| xs <| rz ?_
  refine es <| xb ?_
  obtain ⟨e11, h188, h⟩ := bs h
  refine rb_loop (fun x10 => ⟨envL [(0, .sl (l_0.map A_Region.d)), (9, .sl (l_0.map A_Region.d)), (10, .int .i64 (l_0.length : Int)), (11, .int .i64 x10)], heapL [], 0, 48⟩) (fun w => match w with | Sum.inl _ => .ret | Sum.inr (_) => .exit 0) (fun w => match w with | Sum.inl e11 => ⟨envL [(2, .int .i64 e11)], heapL [], 0, 48⟩ | Sum.inr (e11) => ⟨envL [], heapL [], 0, 48⟩) h188 (wk []) (by intro w; rcases w with w | w <;> simp) ?_ ?_
  ·clear h
   intro x10 y h
   unfold g_region_CheckList_s1 at h
   refine xs <| rz ?_
   refine es <| xs ?_
   rcases iK k h with ⟨k, h⟩ | ⟨k, h⟩
   ·refine xt <| xk <| es <| xs <| xb <| xs <| rK fun K148 RK148 hK148 gK148 => zz ?_
    obtain ⟨y149, q, h⟩ := bK q h
    refine zz ?_
    subst hK148 gK148
    refine es <| xs <| xs <| rK fun K154 RK154 hK154 gK154 => zz ?_
    obtain ⟨r155, h156, h⟩ := bs h
    refine cw (a_region_Check hI h156) <| zz ?_
    subst hK154 gK154
    refine es <| xs <| rz ?_
    refine es ?_
    rcases iK k h with ⟨k, h⟩ | ⟨k, h⟩
    ·refine xt <| xs <| rz ?_
     refine es <| xr <| er <| br <| er ?_
     cases h
     exact en ⟨rfl, wk []⟩
    ·refine xf <| xk <| es <| xs ?_
     obtain ⟨v166, h171, h⟩ := bs h
     refine rb_cut (fun v166 => ⟨envL [(0, .sl (l_0.map A_Region.d)), (3, .int .i64 x10), (4, .ptr 0 0), (9, .sl (l_0.map A_Region.d)), (10, .int .i64 (l_0.length : Int)), (11, .int .i64 x10), (33, .bool v166)], heapL [(0, .box none [.str y149.Name, .int .i64 y149.Top, .int .i64 y149.Height, .int .i64 y149.Left, .int .i64 y149.Width, .int .u8 y149.Align, .bool y149.Bottom])], 1, 48⟩) h171 ?_ ?_
     ·clear h
      intro v166 h
      refine rD hI fun K167 RK167 hK167 gK167 => zz ?_
      rcases iK k h with ⟨k, h⟩ | ⟨k, h⟩
      ·refine zz ?_
       obtain ⟨y169, q, h⟩ := bK q h
       refine zz ?_
       subst hK167 gK167
       cases h
       exact en ⟨rfl, wk [(0, some 4)]⟩
      ·refine zz ?_
       subst hK167 gK167
       cases h
       exact en ⟨rfl, wk [(0, some 4)]⟩
     ·rcases iK k h with ⟨k, h⟩ | ⟨k, h⟩
      ·refine xt <| xs <| rz ?_
       refine es <| xr <| er <| br <| er ?_
       cases h
       exact en ⟨rfl, wk []⟩
      ·refine xf <| xk <| es <| xs <| rD hI fun K179 RK179 hK179 gK179 => zz ?_
       rcases iK k h with ⟨k, h⟩ | ⟨k, h⟩
       ·refine zz ?_
        obtain ⟨y181, q, h⟩ := bK q h
        refine zz ?_
        subst hK179 gK179
        refine es ?_
        rcases iK k h with ⟨k, h⟩ | ⟨k, h⟩
        ·refine xt <| xs <| rz ?_
         refine es <| xr <| br <| er ?_
         cases h
         exact en ⟨rfl, wk []⟩
        ·refine xf <| xk <| bn <| es <| rz ?_
         cases h
         exact en ⟨rfl, wk []⟩
       ·refine zz ?_
        subst hK179 gK179
        refine es <| xf <| xk <| bn <| es <| rz ?_
        cases h
        exact en ⟨rfl, wk []⟩
   ·refine xf <| xx <| ee ?_
    cases h
    exact en ⟨rfl, wk []⟩
  ·rcases e11 with e11 | e11
   ·try dsimp only at h ⊢
    refine br <| er ?_
    cases h
    exact en fr
   ·try dsimp only at h ⊢
    refine bh <| es <| xs <| rz ?_
    refine es <| xr ?_
    cases h
    exact en fr
def g_region_Default  : Option (A_Region) :=
 (some (A_Region.mk [] 11 4 0 32 2 true))
theorem a_region_Default {I : World → Prop} (hI : Stab I)  {r : A_Region} (h : g_region_Default  = some r) : AFun Tryz.prog I 138 [] (A_Region.d r) := by
 have dd := dd_EP; have k := True.intro; have q := k; have rs := Tryz.results138
 unfold g_region_Default at h
 refine .en hI Tryz.func138 Tryz.ntmps138 ?_
 refine xs <| rz ?_
 refine es <| xs <| rz ?_
 refine es <| xr ?_
 cases h
 exact en fr
def g_region_Find_s1 (l_0 : List A_Region) (name_1 : List UInt8) (x14 : Int) : Option (Nx (Int) (((List UInt8) × Int × Int × Int × Int × Int × Bool) ⊕ Unit)) :=
 (if (decide (x14 < (l_0.length : Int))) then ((atI l_0 x14).bind fun y89 => (if (y89.Name == name_1) then (some (.out (.inl (y89.Name, y89.Top, y89.Height, y89.Left, y89.Width, y89.Align, y89.Bottom)))) else (some (.go (IntKind.i64.wrap (x14 + 1)))))) else (some (.out (.inr ()))))
def g_region_Find (l_0 : List A_Region) (name_1 : List UInt8) : Option (A_Region × Bool) :=
 (if (name_1 == ([] : List UInt8)) then ((g_region_Default).bind fun r10 => (some (r10, true))) else ((iter (g_region_Find_s1 l_0 name_1) 0).bind fun e15 => (match e15 with | Sum.inl e15 => (some ((A_Region.mk e15.1 e15.2.1 e15.2.2.1 e15.2.2.2.1 e15.2.2.2.2.1 e15.2.2.2.2.2.1 e15.2.2.2.2.2.2), true)) | Sum.inr (e15) => (some ((A_Region.mk [] 0 0 0 0 0 false), false)))))
theorem a_region_Find {I : World → Prop} (hI : Stab I) {l_0 : List A_Region} {name_1 : List UInt8} {r : A_Region × Bool} (h : g_region_Find l_0 name_1 = some r) : AFun Tryz.prog I 102 [.sl (l_0.map A_Region.d), .str name_1] (.tup [A_Region.d r.1, .bool r.2]) := by
 have dd := dd_EP; have k := True.intro; have q := k; have rs := Tryz.results102
 unfold g_region_Find at h
 refine .en hI Tryz.func102 Tryz.ntmps102 ?_
 refine xs <| rz ?_
 refine es <| xs <| xs <| rz ?_
 refine es ?_
 rcases iK k h with ⟨k, h⟩ | ⟨k, h⟩
 ·refine xt <| xs <| rK fun K9 RK9 hK9 gK9 => zz ?_
  obtain ⟨r10, h11, h⟩ := bs h
  refine cw (a_region_Default hI h11) <| zz ?_
  subst hK9 gK9
  refine es <| xr <| er ?_
  cases h
  exact en fr
 ·refine xf <| xk <| es <| xs <| xs <| rz ?_
  refine es <| xb ?_
  obtain ⟨e15, h97, h⟩ := bs h
  refine rb_loop (fun x14 => ⟨envL [(1, .str name_1), (4, .ptr 0 0), (11, .sl (l_0.map A_Region.d)), (12, .int .i64 (l_0.length : Int)), (13, .int .i64 x14)], heapL [(0, .box none [.str [], .int .i64 0, .int .i64 0, .int .i64 0, .int .i64 0, .int .u8 0, .bool false])], 1, 24⟩) (fun w => match w with | Sum.inl _ => .ret | Sum.inr (_) => .exit 0) (fun w => match w with | Sum.inl e15 => ⟨envL [(4, .ptr 0 0), (5, .bool true)], heapL [(0, .box none [.str e15.1, .int .i64 e15.2.1, .int .i64 e15.2.2.1, .int .i64 e15.2.2.2.1, .int .i64 e15.2.2.2.2.1, .int .u8 e15.2.2.2.2.2.1, .bool e15.2.2.2.2.2.2])], 1, 24⟩ | Sum.inr (e15) => ⟨envL [(4, .ptr 0 0)], heapL [(0, .box none [.str [], .int .i64 0, .int .i64 0, .int .i64 0, .int .i64 0, .int .u8 0, .bool false])], 1, 24⟩) h97 (wk []) (by intro w; rcases w with w | w <;> simp) ?_ ?_
  ·clear h
   intro x14 y h
   unfold g_region_Find_s1 at h
   refine xs <| rz ?_
   refine es <| xs ?_
   rcases iK k h with ⟨k, h⟩ | ⟨k, h⟩
   ·refine xt <| xk <| es <| xs <| xb <| xs <| rK fun K88 RK88 hK88 gK88 => zz ?_
    obtain ⟨y89, q, h⟩ := bK q h
    refine zz ?_
    subst hK88 gK88
    refine es <| xs <| rz ?_
    refine es ?_
    rcases iK k h with ⟨k, h⟩ | ⟨k, h⟩
    ·refine xt <| xs <| rz ?_
     refine es <| xr <| br <| er ?_
     cases h
     exact en ⟨rfl, wk []⟩
    ·refine xf <| xk <| bn <| es <| rz ?_
     cases h
     exact en ⟨rfl, wk []⟩
   ·refine xf <| xx <| ee ?_
    cases h
    exact en ⟨rfl, wk []⟩
  ·rcases e15 with e15 | e15
   ·try dsimp only at h ⊢
    refine br <| er ?_
    cases h
    exact en fr
   ·try dsimp only at h ⊢
    refine bh <| es <| xs <| rz ?_
    refine es <| xr ?_
    cases h
    exact en fr
def g_event_spans (s_0 : A_Span) : Option (Bool) :=
 (if (decide (0 ≤ s_0.In)) then (if (decide (s_0.In < s_0.Out)) then (some (decide (s_0.Out ≤ 5184000))) else (some false)) else (some false))
theorem a_event_spans {I : World → Prop} (hI : Stab I) {s_0 : A_Span} {r : Bool} (h : g_event_spans s_0 = some r) : AFun Tryz.prog I 103 [A_Span.d s_0] (.bool r) := by
 have dd := dd_EP; have k := True.intro; have q := k; have rs := Tryz.results103
 unfold g_event_spans at h
 refine .en hI Tryz.func103 Tryz.ntmps103 ?_
 refine xs <| rz ?_
 refine es <| xs <| rK fun K6 RK6 hK6 gK6 => zz ?_
 rcases iK k h with ⟨k, h⟩ | ⟨k, h⟩
 ·refine zz ?_
  rcases iK k h with ⟨k, h⟩ | ⟨k, h⟩
  ·refine zz ?_
   subst hK6 gK6
   refine es <| xr ?_
   cases h
   exact en fr
  ·refine zz ?_
   subst hK6 gK6
   refine es <| xr ?_
   cases h
   exact en fr
 ·refine zz ?_
  subst hK6 gK6
  refine es <| xr ?_
  cases h
  exact en fr
def g_event_kinds  : Option ((List (List UInt8))) :=
 (some [[68, 73, 65, 76, 79, 71, 85, 69], [83, 79, 85, 78, 68], [84, 73, 84, 76, 69], [77, 85, 83, 73, 67]])
theorem a_event_kinds {I : World → Prop} (hI : Stab I)  {r : (List (List UInt8))} (h : g_event_kinds  = some r) : AFun Tryz.prog I 139 [] (.sl (r.map D.str)) := by
 have dd := dd_EP; have k := True.intro; have q := k; have rs := Tryz.results139
 unfold g_event_kinds at h
 refine .en hI Tryz.func139 Tryz.ntmps139 ?_
 refine xs <| rz ?_
 refine es <| xs <| rz ?_
 refine es <| xr ?_
 cases h
 exact en fr
def g_event_KindName (k_0 : Int) : Option ((List UInt8)) :=
 (((if (decide (k_0 < 1)) then (some true) else (some (decide (4 < k_0)))) : Option (Bool)).bind fun v5 => (if v5 then (some []) else ((g_event_kinds).bind fun r18 => ((atI r18 (IntKind.u8.wrap (k_0 - 1))).bind fun y20 => (some y20)))))
theorem a_event_KindName {I : World → Prop} (hI : Stab I) {k_0 : Int} {r : (List UInt8)} (h : g_event_KindName k_0 = some r) : AFun Tryz.prog I 104 [.int .u8 k_0] (.str r) := by
 have dd := dd_EP; have k := True.intro; have q := k; have rs := Tryz.results104
 unfold g_event_KindName at h
 refine .en hI Tryz.func104 Tryz.ntmps104 ?_
 refine xs <| rz ?_
 refine es <| xs ?_
 obtain ⟨v5, h8, h⟩ := bs h
 refine rb_cut (fun v5 => ⟨envL [(0, .int .u8 k_0), (8, .bool v5)], heapL [], 0, 14⟩) h8 ?_ ?_
 ·clear h
  intro v5 h
  refine rK fun K6 RK6 hK6 gK6 => zz ?_
  rcases iK k h with ⟨k, h⟩ | ⟨k, h⟩
  ·refine zz ?_
   subst hK6 gK6
   cases h
   exact en ⟨rfl, wk []⟩
  ·refine zz ?_
   subst hK6 gK6
   cases h
   exact en ⟨rfl, wk []⟩
 ·rcases iK k h with ⟨k, h⟩ | ⟨k, h⟩
  ·refine xt <| xs <| rz ?_
   refine es <| xr <| er ?_
   cases h
   exact en fr
  ·refine xf <| xk <| es <| xs <| rK fun K17 RK17 hK17 gK17 => zz ?_
   obtain ⟨r18, h19, h⟩ := bs h
   refine cw (a_event_kinds hI h19) <| zz ?_
   obtain ⟨y20, q, h⟩ := bK q h
   refine zz ?_
   subst hK17 gK17
   refine es <| xr ?_
   cases h
   exact en fr
def g_style_Valid (s_0 : A_Style) : Option (Bool) :=
 (some (decide (s_0.Color ≤ 6)))
theorem a_style_Valid {I : World → Prop} (hI : Stab I) {s_0 : A_Style} {r : Bool} (h : g_style_Valid s_0 = some r) : AFun Tryz.prog I 164 [A_Style.d s_0] (.bool r) := by
 have dd := dd_EP; have k := True.intro; have q := k; have rs := Tryz.results164
 unfold g_style_Valid at h
 refine .en hI Tryz.func164 Tryz.ntmps164 ?_
 refine xs <| rz ?_
 refine es <| xs <| rz ?_
 refine es <| xr ?_
 cases h
 exact en fr
def g_style_alike (a_0 : A_Run) (b_1 : A_Run) : Option (Bool) :=
 (if ((a_0.Style.Color == b_1.Style.Color) && ((a_0.Style.Italic == b_1.Style.Italic) && (a_0.Style.Underline == b_1.Style.Underline))) then (if (a_0.Ruby == ([] : List UInt8)) then (some (b_1.Ruby == ([] : List UInt8))) else (some false)) else (some false))
theorem a_style_alike {I : World → Prop} (hI : Stab I) {a_0 : A_Run} {b_1 : A_Run} {r : Bool} (h : g_style_alike a_0 b_1 = some r) : AFun Tryz.prog I 165 [A_Run.d a_0, A_Run.d b_1] (.bool r) := by
 have dd := dd_EP; have k := True.intro; have q := k; have rs := Tryz.results165
 unfold g_style_alike at h
 refine .en hI Tryz.func165 Tryz.ntmps165 ?_
 refine xs <| rz ?_
 refine es <| xs <| rK fun K6 RK6 hK6 gK6 => zz ?_
 rcases iK k h with ⟨k, h⟩ | ⟨k, h⟩
 ·refine zz ?_
  rcases iK k h with ⟨k, h⟩ | ⟨k, h⟩
  ·refine zz ?_
   subst hK6 gK6
   refine es <| xr ?_
   cases h
   exact en fr
  ·refine zz ?_
   subst hK6 gK6
   refine es <| xr ?_
   cases h
   exact en fr
 ·refine zz ?_
  subst hK6 gK6
  refine es <| xr ?_
  cases h
  exact en fr
def g_style_Check_s1 (row_0 : A_Row) (x10 : Int) : Option (Nx (Int) (Int ⊕ Unit)) :=
 (if (decide (x10 < (row_0.Runs.length : Int))) then ((atI row_0.Runs x10).bind fun y297 => ((g_charset_Valid y297.Text).bind fun r303 => (if r303 then (if (y297.Text == ([] : List UInt8)) then (some (.out (.inl 4))) else ((g_style_Valid y297.Style).bind fun r315 => (if r315 then ((g_charset_Valid y297.Ruby).bind fun r322 => (if r322 then (if (decide (0 < x10)) then ((atI row_0.Runs (IntKind.i64.wrap (x10 - 1))).bind fun y333 => ((g_style_alike y333 y297).bind fun r335 => (if r335 then (some (.out (.inl 8))) else (some (.go (IntKind.i64.wrap (x10 + 1))))))) else (some (.go (IntKind.i64.wrap (x10 + 1))))) else (some (.out (.inl 10))))) else (some (.out (.inl 12)))))) else (some (.out (.inl 10)))))) else (some (.out (.inr ()))))
def g_style_Check (row_0 : A_Row) : Option (Int) :=
 (if (decide (16 < (row_0.Runs.length : Int))) then (some 9) else ((iter (g_style_Check_s1 row_0) 0).bind fun e11 => (match e11 with | Sum.inl e11 => (some e11) | Sum.inr (e11) => (some 0))))
theorem a_style_Check {I : World → Prop} (hI : Stab I) (hU8T : ∀ w, I w → U8T w) {row_0 : A_Row} {r : Int} (h : g_style_Check row_0 = some r) : AFun Tryz.prog I 140 [A_Row.d row_0] (.int .i64 r) := by
 have dd := dd_EP; have k := True.intro; have q := k; have rs := Tryz.results140
 unfold g_style_Check at h
 refine .en hI Tryz.func140 Tryz.ntmps140 ?_
 refine xs <| rz ?_
 refine es <| xs <| xs <| rz ?_
 refine es ?_
 rcases iK k h with ⟨k, h⟩ | ⟨k, h⟩
 ·refine xt <| xs <| rz ?_
  refine es <| xr <| er ?_
  cases h
  exact en fr
 ·refine xf <| xk <| es <| xs <| xs <| rz ?_
  refine es <| xb ?_
  obtain ⟨e11, h348, h⟩ := bs h
  refine rb_loop (fun x10 => ⟨envL [(1, .ptr 0 0), (10, .sl (row_0.Runs.map A_Run.d)), (11, .int .i64 (row_0.Runs.length : Int)), (12, .int .i64 x10)], heapL [(0, .box none [.sl (row_0.Runs.map A_Run.d)])], 1, 50⟩) (fun w => match w with | Sum.inl _ => .ret | Sum.inr (_) => .exit 0) (fun w => match w with | Sum.inl e11 => ⟨envL [(2, .int .i64 e11)], heapL [], 0, 50⟩ | Sum.inr (e11) => ⟨envL [], heapL [], 0, 50⟩) h348 (wk []) (by intro w; rcases w with w | w <;> simp) ?_ ?_
  ·clear h
   intro x10 y h
   unfold g_style_Check_s1 at h
   refine xs <| rz ?_
   refine es <| xs ?_
   rcases iK k h with ⟨k, h⟩ | ⟨k, h⟩
   ·refine xt <| xk <| es <| xs <| xb <| xs <| rK fun K296 RK296 hK296 gK296 => zz ?_
    obtain ⟨y297, q, h⟩ := bK q h
    refine zz ?_
    subst hK296 gK296
    refine es <| xb <| xs <| rK fun K302 RK302 hK302 gK302 => zz ?_
    obtain ⟨r303, h304, h⟩ := bs h
    refine cw (a_charset_Valid hI hU8T h304) <| zz ?_
    subst hK302 gK302
    refine es ?_
    rcases iK k h with ⟨k, h⟩ | ⟨k, h⟩
    ·refine xf <| xs <| rz ?_
     refine es ?_
     rcases iK k h with ⟨k, h⟩ | ⟨k, h⟩
     ·refine xt <| xs <| rz ?_
      refine es <| xr <| br <| br <| er ?_
      cases h
      exact en ⟨rfl, wk []⟩
     ·refine xf <| xs <| rK fun K314 RK314 hK314 gK314 => zz ?_
      obtain ⟨r315, h316, h⟩ := bs h
      refine cw (a_style_Valid hI h316) <| zz ?_
      subst hK314 gK314
      refine es ?_
      rcases iK k h with ⟨k, h⟩ | ⟨k, h⟩
      ·refine xf <| xs <| rK fun K321 RK321 hK321 gK321 => zz ?_
       obtain ⟨r322, h323, h⟩ := bs h
       refine cw (a_charset_Valid hI hU8T h323) <| zz ?_
       subst hK321 gK321
       refine es ?_
       rcases iK k h with ⟨k, h⟩ | ⟨k, h⟩
       ·refine xf <| xs <| rD hI fun K331 RK331 hK331 gK331 => zz ?_
        rcases iK k h with ⟨k, h⟩ | ⟨k, h⟩
        ·refine zz ?_
         obtain ⟨y333, q, h⟩ := bK q h
         refine zz ?_
         obtain ⟨r335, h336, h⟩ := bs h
         refine cd (a_style_alike hI h336) <| zz ?_
         subst hK331 gK331
         refine es ?_
         rcases iK k h with ⟨k, h⟩ | ⟨k, h⟩
         ·refine xt <| xs <| rz ?_
          refine es <| xr <| br <| br <| er ?_
          cases h
          exact en ⟨rfl, wk []⟩
         ·refine xf <| xk <| bn <| bn <| es <| rz ?_
          cases h
          exact en ⟨rfl, wk []⟩
        ·refine zz ?_
         subst hK331 gK331
         refine es <| xf <| xk <| bn <| bn <| es <| rz ?_
         cases h
         exact en ⟨rfl, wk []⟩
       ·refine xt <| xs <| rz ?_
        refine es <| xr <| br <| br <| er ?_
        cases h
        exact en ⟨rfl, wk []⟩
      ·refine xt <| xs <| rz ?_
       refine es <| xr <| br <| br <| er ?_
       cases h
       exact en ⟨rfl, wk []⟩
    ·refine xt <| xs <| rz ?_
     refine es <| xr <| br <| br <| er ?_
     cases h
     exact en ⟨rfl, wk []⟩
   ·refine xf <| xx <| ee ?_
    cases h
    exact en ⟨rfl, wk []⟩
  ·rcases e11 with e11 | e11
   ·try dsimp only at h ⊢
    refine br <| er ?_
    cases h
    exact en fr
   ·try dsimp only at h ⊢
    refine bh <| es <| xs <| rz ?_
    refine es <| xr ?_
    cases h
    exact en fr
def g_event_row (r_0 : A_Row) : Option (Int) :=
 ((g_style_Check r_0).bind fun r7 => (if (r7 != 0) then (some r7) else ((g_style_Plain r_0).bind fun r18 => (((if (r18 == ([] : List UInt8)) then (some true) else ((atI r18 0).bind fun b33 => (if ((b33.toNat : Int) == 32) then (some true) else ((atI r18 (IntKind.i64.wrap ((r18.length : Int) - 1))).bind fun b36 => (if ((b36.toNat : Int) == 32) then (some true) else ((g_strings_Contains2 r18 [32, 32]).bind fun r39 => (some r39))))))) : Option (Bool)).bind fun v30 => (if v30 then (some 4) else ((g_style_Len r_0).bind fun r49 => (if (decide (32 < r49)) then (some 11) else (some 0))))))))
theorem a_event_row {I : World → Prop} (hI : Stab I) (hShp : ∀ w, I w → Shp w) (hU8T : ∀ w, I w → U8T w) {r_0 : A_Row} {r : Int} (h : g_event_row r_0 = some r) : AFun Tryz.prog I 105 [A_Row.d r_0] (.int .i64 r) := by
 have dd := dd_EP; have k := True.intro; have q := k; have rs := Tryz.results105
 unfold g_event_row at h
 refine .en hI Tryz.func105 Tryz.ntmps105 ?_
 refine xs <| rz ?_
 refine es <| xs <| xs <| rK fun K6 RK6 hK6 gK6 => zz ?_
 obtain ⟨r7, h8, h⟩ := bs h
 refine cw (a_style_Check hI hU8T h8) <| zz ?_
 subst hK6 gK6
 refine es <| xs <| rz ?_
 refine es ?_
 rcases iK k h with ⟨k, h⟩ | ⟨k, h⟩
 ·refine xt <| xs <| rz ?_
  refine es <| xr <| er ?_
  cases h
  exact en fr
 ·refine xf <| xk <| es <| xs <| rK fun K17 RK17 hK17 gK17 => zz ?_
  obtain ⟨r18, h19, h⟩ := bs h
  refine cw (a_style_Plain hI h19) <| zz ?_
  subst hK17 gK17
  refine es <| xs ?_
  obtain ⟨v30, h41, h⟩ := bs h
  refine rb_cut (fun v30 => ⟨envL [(1, .ptr 0 0), (30, .bool v30)], heapL [(0, .box none [.sl (r_0.Runs.map A_Run.d)])], 1, 34⟩) h41 ?_ ?_
  ·clear h
   intro v30 h
   refine rK fun K31 RK31 hK31 gK31 => zz ?_
   rcases iK k h with ⟨k, h⟩ | ⟨k, h⟩
   ·refine zz ?_
    subst hK31 gK31
    cases h
    exact en ⟨rfl, wk []⟩
   ·refine zz ?_
    obtain ⟨b33, q, h⟩ := bK q h
    refine zz ?_
    rcases iK k h with ⟨k, h⟩ | ⟨k, h⟩
    ·refine zz ?_
     subst hK31 gK31
     cases h
     exact en ⟨rfl, wk []⟩
    ·refine zz ?_
     obtain ⟨b36, q, h⟩ := bK q h
     refine zz ?_
     rcases iK k h with ⟨k, h⟩ | ⟨k, h⟩
     ·refine zz ?_
      subst hK31 gK31
      cases h
      exact en ⟨rfl, wk []⟩
     ·refine zz ?_
      obtain ⟨r39, h40, h⟩ := bs h
      refine cw (a_strings_Contains2 I hI hShp r18 [32, 32] h40) <| zz ?_
      subst hK31 gK31
      cases h
      exact en ⟨rfl, wk []⟩
  ·rcases iK k h with ⟨k, h⟩ | ⟨k, h⟩
   ·refine xt <| xs <| rz ?_
    refine es <| xr <| er ?_
    cases h
    exact en fr
   ·refine xf <| xk <| es <| xs <| xs <| rK fun K48 RK48 hK48 gK48 => zz ?_
    obtain ⟨r49, h50, h⟩ := bs h
    refine cw (a_style_Len hI hU8T h50) <| zz ?_
    subst hK48 gK48
    refine es ?_
    rcases iK k h with ⟨k, h⟩ | ⟨k, h⟩
    ·refine xt <| xs <| rz ?_
     refine es <| xr <| er ?_
     cases h
     exact en fr
    ·refine xf <| xk <| es <| xs <| rz ?_
     refine es <| xr ?_
     cases h
     exact en fr
def g_event_lens_s1 (e_0 : A_Event) (x7 : (List Int) × Int) : Option (Nx ((List Int) × Int) ((List Int))) :=
 (if (decide (x7.2 < (e_0.Rows.length : Int))) then ((atI e_0.Rows x7.2).bind fun y78 => ((g_style_Len y78).bind fun r81 => (if (x7.1.length + 1) * 8 ≤ 140737488355328 then (some (.go ((x7.1 ++ [r81]), (IntKind.i64.wrap (x7.2 + 1))))) else none))) else (some (.out x7.1)))
def g_event_lens (e_0 : A_Event) : Option ((List Int)) :=
 ((iter (g_event_lens_s1 e_0) ([], 0)).bind fun e8 => (some e8))
theorem a_event_lens {I : World → Prop} (hI : Stab I) (hU8T : ∀ w, I w → U8T w) {e_0 : A_Event} {r : (List Int)} (h : g_event_lens e_0 = some r) : AFun Tryz.prog I 107 [A_Event.d e_0] (.sl (r.map (D.int .i64))) := by
 have dd := dd_EP; have k := True.intro; have q := k; have rs := Tryz.results107
 unfold g_event_lens at h
 refine .en hI Tryz.func107 Tryz.ntmps107 ?_
 refine xs <| rz ?_
 refine es <| xs <| rz ?_
 refine es <| xs <| xs <| rz ?_
 refine es <| xb ?_
 obtain ⟨e8, h86, h⟩ := bs h
 refine rb_loop (fun x7 => ⟨envL [(3, .own 0 x7.1.length), (7, .sl (e_0.Rows.map A_Row.d)), (8, .int .i64 (e_0.Rows.length : Int)), (9, .int .i64 x7.2)], heapL [(0, .vec 3 1 (x7.1.map (D.int .i64)) false)], 1, 20⟩) (fun _ => .exit 0) (fun e8 => ⟨envL [(3, .own 0 e8.length)], heapL [(0, .vec 3 1 (e8.map (D.int .i64)) false)], 1, 20⟩) h86 (wk [(0, none)]) (by intro w; simp) ?_ ?_
 ·clear h
  intro x7 y h
  unfold g_event_lens_s1 at h
  refine xs <| rz ?_
  refine es <| xs ?_
  rcases iK k h with ⟨k, h⟩ | ⟨k, h⟩
  ·refine xt <| xk <| es <| xs <| xb <| xs <| rK fun K77 RK77 hK77 gK77 => zz ?_
   obtain ⟨y78, q, h⟩ := bK q h
   refine zz ?_
   subst hK77 gK77
   refine es <| rK fun K80 RK80 hK80 gK80 => zz ?_
   obtain ⟨r81, h82, h⟩ := bs h
   refine cw (a_style_Len hI hU8T h82) <| zz ?_
   obtain ⟨h83, h⟩ := ite_on h
   have h84 : x7.1.length + 1 ≤ 9223372036854775807 := by omega
   try simp only [Nat.reduceLeDiff] at h84
   have q := And.intro @h84 <| And.intro @h83 <| q
   refine zz ?_
   subst hK80 gK80
   refine bn <| es <| rz ?_
   cases h
   exact en ⟨rfl, wk [(0, some 10)]⟩
  ·refine xf <| xx <| ee ?_
   cases h
   exact en ⟨rfl, wk []⟩
 ·refine bh <| es <| xs <| rz ?_
  refine es <| xr ?_
  cases h
  exact en fr
def g_region_usable (r_0 : A_Region) : Option (Bool) :=
 ((g_region_Default).bind fun r10 => (if ((r_0.Name == r10.Name) && ((r_0.Top == r10.Top) && ((r_0.Height == r10.Height) && ((r_0.Left == r10.Left) && ((r_0.Width == r10.Width) && ((r_0.Align == r10.Align) && (r_0.Bottom == r10.Bottom))))))) then (some true) else ((g_region_Check r_0).bind fun r13 => (some (r13 == 0)))))
theorem a_region_usable {I : World → Prop} (hI : Stab I) {r_0 : A_Region} {r : Bool} (h : g_region_usable r_0 = some r) : AFun Tryz.prog I 141 [A_Region.d r_0] (.bool r) := by
 have dd := dd_EP; have k := True.intro; have q := k; have rs := Tryz.results141
 unfold g_region_usable at h
 refine .en hI Tryz.func141 Tryz.ntmps141 ?_
 refine xs <| rz ?_
 refine es <| xs <| rD hI fun K9 RK9 hK9 gK9 => zz ?_
 obtain ⟨r10, h11, h⟩ := bs h
 refine cd (a_region_Default hI h11) <| zz ?_
 rcases iK k h with ⟨k, h⟩ | ⟨k, h⟩
 ·refine zz ?_
  subst hK9 gK9
  refine es <| xr ?_
  cases h
  exact en fr
 ·refine zz ?_
  obtain ⟨r13, h14, h⟩ := bs h
  refine cd (a_region_Check hI h14) <| zz ?_
  subst hK9 gK9
  refine es <| xr ?_
  cases h
  exact en fr
def g_region_Place_s1 (r_0 : A_Region) (lens_1 : List Int) (x39 : (List A_Spot) × Int) : Option (Nx ((List A_Spot) × Int) (Int ⊕ ((List A_Spot)))) :=
 (if (decide (x39.2 < (lens_1.length : Int))) then ((atI lens_1 x39.2).bind fun y309 => (if (decide (y309 < 0)) then (some (.out (.inl 2))) else (if (decide (r_0.Width < y309)) then (some (.out (.inl 11))) else (if (r_0.Align == 3) then (if (x39.1.length + 1) * 24 ≤ 140737488355328 then (some (.go ((x39.1 ++ [(A_Spot.mk (IntKind.i64.wrap ((IntKind.i64.wrap (r_0.Top + (IntKind.i64.wrap (r_0.Height - (lens_1.length : Int))))) + x39.2)) (IntKind.i64.wrap (r_0.Left + (IntKind.i64.wrap (r_0.Width - y309)))) y309)]), (IntKind.i64.wrap (x39.2 + 1))))) else none) else (if (r_0.Align == 2) then (if (x39.1.length + 1) * 24 ≤ 140737488355328 then (some (.go ((x39.1 ++ [(A_Spot.mk (IntKind.i64.wrap ((IntKind.i64.wrap (r_0.Top + (IntKind.i64.wrap (r_0.Height - (lens_1.length : Int))))) + x39.2)) (IntKind.i64.wrap (r_0.Left + (IntKind.i64.wrap (Int.tdiv (IntKind.i64.wrap (r_0.Width - y309)) 2)))) y309)]), (IntKind.i64.wrap (x39.2 + 1))))) else none) else (if (x39.1.length + 1) * 24 ≤ 140737488355328 then (some (.go ((x39.1 ++ [(A_Spot.mk (IntKind.i64.wrap ((IntKind.i64.wrap (r_0.Top + (IntKind.i64.wrap (r_0.Height - (lens_1.length : Int))))) + x39.2)) r_0.Left y309)]), (IntKind.i64.wrap (x39.2 + 1))))) else none)))))) else (some (.out (.inr x39.1))))
def g_region_Place_s2 (r_0 : A_Region) (lens_1 : List Int) (x352 : (List A_Spot) × Int) : Option (Nx ((List A_Spot) × Int) (Int ⊕ ((List A_Spot)))) :=
 (if (decide (x352.2 < (lens_1.length : Int))) then ((atI lens_1 x352.2).bind fun y622 => (if (decide (y622 < 0)) then (some (.out (.inl 2))) else (if (decide (r_0.Width < y622)) then (some (.out (.inl 11))) else (if (r_0.Align == 3) then (if (x352.1.length + 1) * 24 ≤ 140737488355328 then (some (.go ((x352.1 ++ [(A_Spot.mk (IntKind.i64.wrap (r_0.Top + x352.2)) (IntKind.i64.wrap (r_0.Left + (IntKind.i64.wrap (r_0.Width - y622)))) y622)]), (IntKind.i64.wrap (x352.2 + 1))))) else none) else (if (r_0.Align == 2) then (if (x352.1.length + 1) * 24 ≤ 140737488355328 then (some (.go ((x352.1 ++ [(A_Spot.mk (IntKind.i64.wrap (r_0.Top + x352.2)) (IntKind.i64.wrap (r_0.Left + (IntKind.i64.wrap (Int.tdiv (IntKind.i64.wrap (r_0.Width - y622)) 2)))) y622)]), (IntKind.i64.wrap (x352.2 + 1))))) else none) else (if (x352.1.length + 1) * 24 ≤ 140737488355328 then (some (.go ((x352.1 ++ [(A_Spot.mk (IntKind.i64.wrap (r_0.Top + x352.2)) r_0.Left y622)]), (IntKind.i64.wrap (x352.2 + 1))))) else none)))))) else (some (.out (.inr x352.1))))
def g_region_Place (r_0 : A_Region) (lens_1 : List Int) : Option ((List A_Spot) × Int) :=
 ((g_region_usable r_0).bind fun r21 => (if r21 then (if (decide (r_0.Height < (lens_1.length : Int))) then (some ([], 9)) else (if r_0.Bottom then ((iter (g_region_Place_s1 r_0 lens_1) ([], 0)).bind fun e40 => (match e40 with | Sum.inl e40 => (some ([], e40)) | Sum.inr (e40) => (some (e40, 0)))) else ((iter (g_region_Place_s2 r_0 lens_1) ([], 0)).bind fun e353 => (match e353 with | Sum.inl e353 => (some ([], e353)) | Sum.inr (e353) => (some (e353, 0)))))) else (some ([], 1))))
theorem a_region_Place {I : World → Prop} (hI : Stab I) {r_0 : A_Region} {lens_1 : List Int} {r : (List A_Spot) × Int} (h : g_region_Place r_0 lens_1 = some r) : AFun Tryz.prog I 106 [A_Region.d r_0, .sl (lens_1.map (D.int .i64))] (.tup [.sl (r.1.map A_Spot.d), .int .i64 r.2]) := by
 have dd := dd_EP; have k := True.intro; have q := k; have rs := Tryz.results106
 unfold g_region_Place at h
 refine .en hI Tryz.func106 Tryz.ntmps106 ?_
 refine xs <| rz ?_
 refine es <| xs <| xb <| xs <| rK fun K20 RK20 hK20 gK20 => zz ?_
 obtain ⟨r21, h22, h⟩ := bs h
 refine cw (a_region_usable hI h22) <| zz ?_
 subst hK20 gK20
 refine es ?_
 rcases iK k h with ⟨k, h⟩ | ⟨k, h⟩
 ·refine xf <| xs <| rz ?_
  refine es ?_
  rcases iK k h with ⟨k, h⟩ | ⟨k, h⟩
  ·refine xt <| xs <| rz ?_
   refine es <| xr <| br <| er ?_
   cases h
   exact en fr
  ·refine xf <| xk <| bn <| es <| xs <| rz ?_
   refine es <| xs <| xs <| rz ?_
   refine es ?_
   rcases iK k h with ⟨k, h⟩ | ⟨k, h⟩
   ·refine xt <| rz ?_
    refine es <| xs <| rz ?_
    refine es <| xs <| xs <| rz ?_
    refine es <| xb ?_
    obtain ⟨e40, h345, h⟩ := bs h
    refine rb_loop (fun x39 => ⟨envL [(2, .ptr 0 0), (6, .int .i64 (IntKind.i64.wrap (r_0.Top + (IntKind.i64.wrap (r_0.Height - (lens_1.length : Int)))))), (7, .own 1 x39.1.length), (32, .sl (lens_1.map (D.int .i64))), (33, .int .i64 (lens_1.length : Int)), (34, .int .i64 x39.2)], heapL [(0, .box none [.str r_0.Name, .int .i64 r_0.Top, .int .i64 r_0.Height, .int .i64 r_0.Left, .int .i64 r_0.Width, .int .u8 r_0.Align, .bool r_0.Bottom]), (1, .vec 214 3 (x39.1.map A_Spot.d) false)], 2, 81⟩) (fun w => match w with | Sum.inl _ => .ret | Sum.inr (_) => .exit 1) (fun w => match w with | Sum.inl e40 => ⟨envL [(4, .nils), (5, .int .i64 e40)], heapL [], 0, 81⟩ | Sum.inr (e40) => ⟨envL [(7, .own 0 e40.length)], heapL [(0, .vec 214 3 (e40.map A_Spot.d) false)], 1, 81⟩) h345 (wk [(1, none)]) (by intro w; rcases w with w | w <;> simp) ?_ ?_
    ·clear h
     intro x39 y h
     unfold g_region_Place_s1 at h
     refine xs <| rz ?_
     refine es <| xs ?_
     rcases iK k h with ⟨k, h⟩ | ⟨k, h⟩
     ·refine xt <| xk <| es <| xs <| xb <| xs <| rK fun K308 RK308 hK308 gK308 => zz ?_
      obtain ⟨y309, q, h⟩ := bK q h
      refine zz ?_
      subst hK308 gK308
      refine es <| xs <| xs <| rz ?_
      refine es ?_
      rcases iK k h with ⟨k, h⟩ | ⟨k, h⟩
      ·refine xt <| xs <| rz ?_
       refine es <| xr <| er <| br <| er ?_
       cases h
       exact en ⟨rfl, wk []⟩
      ·refine xf <| xk <| es <| xs <| xs <| rz ?_
       refine es ?_
       rcases iK k h with ⟨k, h⟩ | ⟨k, h⟩
       ·refine xt <| xs <| rz ?_
        refine es <| xr <| er <| br <| er ?_
        cases h
        exact en ⟨rfl, wk []⟩
       ·refine xf <| xk <| es <| xs <| rz ?_
        refine es <| xs <| xs <| rz ?_
        refine es <| xb <| xs <| rz ?_
        refine es ?_
        rcases iK k h with ⟨k, h⟩ | ⟨k, h⟩
        ·refine xt <| rz ?_
         refine bn <| es <| rK fun K329 RK329 hK329 gK329 => zz ?_
         obtain ⟨h330, h⟩ := ite_on h
         have h331 : x39.1.length + 1 ≤ 9223372036854775807 := by omega
         try simp only [Nat.reduceLeDiff] at h331
         have q := And.intro @h331 <| And.intro @h330 <| q
         refine zz ?_
         subst hK329 gK329
         refine bn <| es <| rz ?_
         cases h
         exact en ⟨rfl, wk [(1, some 39)]⟩
        ·refine xf <| xs <| rz ?_
         refine es ?_
         rcases iK k h with ⟨k, h⟩ | ⟨k, h⟩
         ·refine xt <| rz ?_
          refine bn <| es <| rK fun K337 RK337 hK337 gK337 => zz ?_
          obtain ⟨h338, h⟩ := ite_on h
          have h339 : x39.1.length + 1 ≤ 9223372036854775807 := by omega
          try simp only [Nat.reduceLeDiff] at h339
          have q := And.intro @h339 <| And.intro @h338 <| q
          refine zz ?_
          subst hK337 gK337
          refine bn <| es <| rz ?_
          cases h
          exact en ⟨rfl, wk [(1, some 42)]⟩
         ·refine xf <| xk <| bn <| es <| rK fun K341 RK341 hK341 gK341 => zz ?_
          obtain ⟨h342, h⟩ := ite_on h
          have h343 : x39.1.length + 1 ≤ 9223372036854775807 := by omega
          try simp only [Nat.reduceLeDiff] at h343
          have q := And.intro @h343 <| And.intro @h342 <| q
          refine zz ?_
          subst hK341 gK341
          refine bn <| es <| rz ?_
          cases h
          exact en ⟨rfl, wk [(1, some 32)]⟩
     ·refine xf <| xx <| ee ?_
      cases h
      exact en ⟨rfl, wk [(0, some 1)]⟩
    ·rcases e40 with e40 | e40
     ·try dsimp only at h ⊢
      refine br <| er ?_
      cases h
      exact en fr
     ·try dsimp only at h ⊢
      refine bh <| es <| xs <| rz ?_
      refine es <| xr ?_
      cases h
      exact en fr
   ·refine xf <| xk <| es <| xs <| rz ?_
    refine es <| xs <| xs <| rz ?_
    refine es <| xb ?_
    obtain ⟨e353, h658, h⟩ := bs h
    refine rb_loop (fun x352 => ⟨envL [(2, .ptr 0 0), (6, .int .i64 r_0.Top), (7, .own 1 x352.1.length), (32, .sl (lens_1.map (D.int .i64))), (33, .int .i64 (lens_1.length : Int)), (34, .int .i64 x352.2)], heapL [(0, .box none [.str r_0.Name, .int .i64 r_0.Top, .int .i64 r_0.Height, .int .i64 r_0.Left, .int .i64 r_0.Width, .int .u8 r_0.Align, .bool r_0.Bottom]), (1, .vec 214 3 (x352.1.map A_Spot.d) false)], 2, 81⟩) (fun w => match w with | Sum.inl _ => .ret | Sum.inr (_) => .exit 1) (fun w => match w with | Sum.inl e353 => ⟨envL [(4, .nils), (5, .int .i64 e353)], heapL [], 0, 81⟩ | Sum.inr (e353) => ⟨envL [(7, .own 0 e353.length)], heapL [(0, .vec 214 3 (e353.map A_Spot.d) false)], 1, 81⟩) h658 (wk [(1, none)]) (by intro w; rcases w with w | w <;> simp) ?_ ?_
    ·clear h
     intro x352 y h
     unfold g_region_Place_s2 at h
     refine xs <| rz ?_
     refine es <| xs ?_
     rcases iK k h with ⟨k, h⟩ | ⟨k, h⟩
     ·refine xt <| xk <| es <| xs <| xb <| xs <| rK fun K621 RK621 hK621 gK621 => zz ?_
      obtain ⟨y622, q, h⟩ := bK q h
      refine zz ?_
      subst hK621 gK621
      refine es <| xs <| xs <| rz ?_
      refine es ?_
      rcases iK k h with ⟨k, h⟩ | ⟨k, h⟩
      ·refine xt <| xs <| rz ?_
       refine es <| xr <| er <| br <| er ?_
       cases h
       exact en ⟨rfl, wk []⟩
      ·refine xf <| xk <| es <| xs <| xs <| rz ?_
       refine es ?_
       rcases iK k h with ⟨k, h⟩ | ⟨k, h⟩
       ·refine xt <| xs <| rz ?_
        refine es <| xr <| er <| br <| er ?_
        cases h
        exact en ⟨rfl, wk []⟩
       ·refine xf <| xk <| es <| xs <| rz ?_
        refine es <| xs <| xs <| rz ?_
        refine es <| xb <| xs <| rz ?_
        refine es ?_
        rcases iK k h with ⟨k, h⟩ | ⟨k, h⟩
        ·refine xt <| rz ?_
         refine bn <| es <| rK fun K642 RK642 hK642 gK642 => zz ?_
         obtain ⟨h643, h⟩ := ite_on h
         have h644 : x352.1.length + 1 ≤ 9223372036854775807 := by omega
         try simp only [Nat.reduceLeDiff] at h644
         have q := And.intro @h644 <| And.intro @h643 <| q
         refine zz ?_
         subst hK642 gK642
         refine bn <| es <| rz ?_
         cases h
         exact en ⟨rfl, wk [(1, some 39)]⟩
        ·refine xf <| xs <| rz ?_
         refine es ?_
         rcases iK k h with ⟨k, h⟩ | ⟨k, h⟩
         ·refine xt <| rz ?_
          refine bn <| es <| rK fun K650 RK650 hK650 gK650 => zz ?_
          obtain ⟨h651, h⟩ := ite_on h
          have h652 : x352.1.length + 1 ≤ 9223372036854775807 := by omega
          try simp only [Nat.reduceLeDiff] at h652
          have q := And.intro @h652 <| And.intro @h651 <| q
          refine zz ?_
          subst hK650 gK650
          refine bn <| es <| rz ?_
          cases h
          exact en ⟨rfl, wk [(1, some 42)]⟩
         ·refine xf <| xk <| bn <| es <| rK fun K654 RK654 hK654 gK654 => zz ?_
          obtain ⟨h655, h⟩ := ite_on h
          have h656 : x352.1.length + 1 ≤ 9223372036854775807 := by omega
          try simp only [Nat.reduceLeDiff] at h656
          have q := And.intro @h656 <| And.intro @h655 <| q
          refine zz ?_
          subst hK654 gK654
          refine bn <| es <| rz ?_
          cases h
          exact en ⟨rfl, wk [(1, some 32)]⟩
     ·refine xf <| xx <| ee ?_
      cases h
      exact en ⟨rfl, wk [(0, some 1)]⟩
    ·rcases e353 with e353 | e353
     ·try dsimp only at h ⊢
      refine br <| er ?_
      cases h
      exact en fr
     ·try dsimp only at h ⊢
      refine bh <| es <| xs <| rz ?_
      refine es <| xr ?_
      cases h
      exact en fr
 ·refine xt <| xs <| rz ?_
  refine es <| xr <| br <| er ?_
  cases h
  exact en fr
def g_event_Check_s1 (e_0 : A_Event) (x111 : Int) : Option (Nx (Int) (Int ⊕ Unit)) :=
 (if (decide (x111 < (e_0.Rows.length : Int))) then ((atI e_0.Rows x111).bind fun y216 => ((g_event_row y216).bind fun r222 => (if (r222 != 0) then (some (.out (.inl r222))) else (some (.go (IntKind.i64.wrap (x111 + 1))))))) else (some (.out (.inr ()))))
def g_event_Check (e_0 : A_Event) (regions_1 : List A_Region) : Option (Int) :=
 ((g_region_Find regions_1 e_0.Region).bind fun r7 => (((if (decide (e_0.ID < 1)) then (some true) else (if (decide (1099511627776 < e_0.ID)) then (some true) else ((g_event_spans e_0.Span).bind fun r69 => (some (!r69))))) : Option (Bool)).bind fun v65 => (if v65 then (some 2) else (if r7.2 then ((g_event_KindName e_0.Kind).bind fun r82 => (if (r82 == ([] : List UInt8)) then (some 3) else (((if (e_0.Speaker == ([] : List UInt8)) then (some false) else ((g_lines_Name e_0.Speaker).bind fun r94 => (some (!r94)))) : Option (Bool)).bind fun v91 => (if v91 then (some 5) else (((if ((e_0.Rows.length : Int) == 0) then (some true) else (some (decide (4 < (e_0.Rows.length : Int))))) : Option (Bool)).bind fun v102 => (if v102 then (some 9) else ((iter (g_event_Check_s1 e_0) 0).bind fun e112 => (match e112 with | Sum.inl e112 => (some e112) | Sum.inr (e112) => ((g_event_lens e_0).bind fun r237 => ((g_region_Place r7.1 r237).bind fun r239 => (some r239.2))))))))))) else (some 6)))))
theorem a_event_Check {I : World → Prop} (hI : Stab I) (hShp : ∀ w, I w → Shp w) (hU8T : ∀ w, I w → U8T w) {e_0 : A_Event} {regions_1 : List A_Region} {r : Int} (h : g_event_Check e_0 regions_1 = some r) : AFun Tryz.prog I 62 [A_Event.d e_0, .sl (regions_1.map A_Region.d)] (.int .i64 r) := by
 have dd := dd_EP; have k := True.intro; have q := k; have rs := Tryz.results62
 unfold g_event_Check at h
 refine .en hI Tryz.func62 Tryz.ntmps62 ?_
 refine xs <| rz ?_
 refine es <| xs <| rK fun K6 RK6 hK6 gK6 => zz ?_
 obtain ⟨r7, h8, h⟩ := bs h
 refine cw (a_region_Find hI h8) <| zz ?_
 subst hK6 gK6
 refine es <| xs <| xb ?_
 obtain ⟨v65, h71, h⟩ := bs h
 refine rb_cut (fun v65 => ⟨envL [(2, .ptr 0 0), (5, .ptr 1 0), (6, .bool r7.2), (19, .bool v65)], heapL [(0, .box none [.int .i64 e_0.ID, .int .i64 e_0.Span.In, .int .i64 e_0.Span.Out, .str e_0.Region, .int .u8 e_0.Kind, .str e_0.Speaker, .sl (e_0.Rows.map A_Row.d)]), (1, .box none [.str r7.1.Name, .int .i64 r7.1.Top, .int .i64 r7.1.Height, .int .i64 r7.1.Left, .int .i64 r7.1.Width, .int .u8 r7.1.Align, .bool r7.1.Bottom])], 2, 84⟩) h71 ?_ ?_
 ·clear h
  intro v65 h
  refine rK fun K66 RK66 hK66 gK66 => zz ?_
  rcases iK k h with ⟨k, h⟩ | ⟨k, h⟩
  ·refine zz ?_
   subst hK66 gK66
   cases h
   exact en ⟨rfl, wk [(1, some 9)]⟩
  ·refine zz ?_
   rcases iK k h with ⟨k, h⟩ | ⟨k, h⟩
   ·refine zz ?_
    subst hK66 gK66
    cases h
    exact en ⟨rfl, wk [(1, some 9)]⟩
   ·refine zz ?_
    obtain ⟨r69, h70, h⟩ := bs h
    refine cw (a_event_spans hI h70) <| zz ?_
    subst hK66 gK66
    cases h
    exact en ⟨rfl, wk [(1, some 9)]⟩
 ·rcases iK k h with ⟨k, h⟩ | ⟨k, h⟩
  ·refine xt <| xs <| rz ?_
   refine es <| xr <| br <| er ?_
   cases h
   exact en fr
  ·refine xf <| xs <| rz ?_
   refine es ?_
   rcases iK k h with ⟨k, h⟩ | ⟨k, h⟩
   ·refine xf <| xs <| rK fun K81 RK81 hK81 gK81 => zz ?_
    obtain ⟨r82, h83, h⟩ := bs h
    refine cw (a_event_KindName hI h83) <| zz ?_
    subst hK81 gK81
    refine es ?_
    rcases iK k h with ⟨k, h⟩ | ⟨k, h⟩
    ·refine xt <| xs <| rz ?_
     refine es <| xr <| br <| er ?_
     cases h
     exact en fr
    ·refine xf ?_
     obtain ⟨v91, h96, h⟩ := bs h
     refine rb_cut (fun v91 => ⟨envL [(2, .ptr 0 0), (5, .ptr 1 0), (42, .bool v91)], heapL [(0, .box none [.int .i64 e_0.ID, .int .i64 e_0.Span.In, .int .i64 e_0.Span.Out, .str e_0.Region, .int .u8 e_0.Kind, .str e_0.Speaker, .sl (e_0.Rows.map A_Row.d)]), (1, .box none [.str r7.1.Name, .int .i64 r7.1.Top, .int .i64 r7.1.Height, .int .i64 r7.1.Left, .int .i64 r7.1.Width, .int .u8 r7.1.Align, .bool r7.1.Bottom])], 2, 84⟩) h96 ?_ ?_
     ·clear h
      intro v91 h
      refine rK fun K92 RK92 hK92 gK92 => zz ?_
      rcases iK k h with ⟨k, h⟩ | ⟨k, h⟩
      ·refine zz ?_
       subst hK92 gK92
       cases h
       exact en ⟨rfl, wk []⟩
      ·refine zz ?_
       obtain ⟨r94, h95, h⟩ := bs h
       refine cw (a_lines_Name hI h95) <| zz ?_
       subst hK92 gK92
       cases h
       exact en ⟨rfl, wk []⟩
     ·rcases iK k h with ⟨k, h⟩ | ⟨k, h⟩
      ·refine xt <| xs <| rz ?_
       refine es <| xr <| br <| er ?_
       cases h
       exact en fr
      ·refine xf ?_
       obtain ⟨v102, h105, h⟩ := bs h
       refine rb_cut (fun v102 => ⟨envL [(2, .ptr 0 0), (5, .ptr 1 0), (52, .bool v102)], heapL [(0, .box none [.int .i64 e_0.ID, .int .i64 e_0.Span.In, .int .i64 e_0.Span.Out, .str e_0.Region, .int .u8 e_0.Kind, .str e_0.Speaker, .sl (e_0.Rows.map A_Row.d)]), (1, .box none [.str r7.1.Name, .int .i64 r7.1.Top, .int .i64 r7.1.Height, .int .i64 r7.1.Left, .int .i64 r7.1.Width, .int .u8 r7.1.Align, .bool r7.1.Bottom])], 2, 84⟩) h105 ?_ ?_
       ·clear h
        intro v102 h
        refine rK fun K103 RK103 hK103 gK103 => zz ?_
        rcases iK k h with ⟨k, h⟩ | ⟨k, h⟩
        ·refine zz ?_
         subst hK103 gK103
         cases h
         exact en ⟨rfl, wk []⟩
        ·refine zz ?_
         subst hK103 gK103
         cases h
         exact en ⟨rfl, wk []⟩
       ·rcases iK k h with ⟨k, h⟩ | ⟨k, h⟩
        ·refine xt <| xs <| rz ?_
         refine es <| xr <| br <| er ?_
         cases h
         exact en fr
        ·refine xf <| xk <| bn <| es <| xs <| xs <| rz ?_
         refine es <| xb ?_
         obtain ⟨e112, h230, h⟩ := bs h
         refine rb_loop (fun x111 => ⟨envL [(2, .ptr 0 0), (5, .ptr 1 0), (64, .sl (e_0.Rows.map A_Row.d)), (65, .int .i64 (e_0.Rows.length : Int)), (66, .int .i64 x111)], heapL [(0, .box none [.int .i64 e_0.ID, .int .i64 e_0.Span.In, .int .i64 e_0.Span.Out, .str e_0.Region, .int .u8 e_0.Kind, .str e_0.Speaker, .sl (e_0.Rows.map A_Row.d)]), (1, .box none [.str r7.1.Name, .int .i64 r7.1.Top, .int .i64 r7.1.Height, .int .i64 r7.1.Left, .int .i64 r7.1.Width, .int .u8 r7.1.Align, .bool r7.1.Bottom])], 2, 84⟩) (fun w => match w with | Sum.inl _ => .ret | Sum.inr (_) => .exit 1) (fun w => match w with | Sum.inl e112 => ⟨envL [(4, .int .i64 e112)], heapL [], 0, 84⟩ | Sum.inr (e112) => ⟨envL [(2, .ptr 0 0), (5, .ptr 1 0)], heapL [(0, .box none [.int .i64 e_0.ID, .int .i64 e_0.Span.In, .int .i64 e_0.Span.Out, .str e_0.Region, .int .u8 e_0.Kind, .str e_0.Speaker, .sl (e_0.Rows.map A_Row.d)]), (1, .box none [.str r7.1.Name, .int .i64 r7.1.Top, .int .i64 r7.1.Height, .int .i64 r7.1.Left, .int .i64 r7.1.Width, .int .u8 r7.1.Align, .bool r7.1.Bottom])], 2, 84⟩) h230 (wk []) (by intro w; rcases w with w | w <;> simp) ?_ ?_
         ·clear h
          intro x111 y h
          unfold g_event_Check_s1 at h
          refine xs <| rz ?_
          refine es <| xs ?_
          rcases iK k h with ⟨k, h⟩ | ⟨k, h⟩
          ·refine xt <| xk <| es <| xs <| xb <| xs <| rK fun K215 RK215 hK215 gK215 => zz ?_
           obtain ⟨y216, q, h⟩ := bK q h
           refine zz ?_
           subst hK215 gK215
           refine es <| xs <| rK fun K221 RK221 hK221 gK221 => zz ?_
           obtain ⟨r222, h223, h⟩ := bs h
           refine cw (a_event_row hI hShp hU8T h223) <| zz ?_
           subst hK221 gK221
           refine es <| xs <| rz ?_
           refine es ?_
           rcases iK k h with ⟨k, h⟩ | ⟨k, h⟩
           ·refine xt <| xs <| rz ?_
            refine es <| xr <| br <| er ?_
            cases h
            exact en ⟨rfl, wk []⟩
           ·refine xf <| xk <| bn <| es <| rz ?_
            cases h
            exact en ⟨rfl, wk []⟩
          ·refine xf <| xx <| ee ?_
           cases h
           exact en ⟨rfl, wk []⟩
         ·rcases e112 with e112 | e112
          ·try dsimp only at h ⊢
           refine br <| er ?_
           cases h
           exact en fr
          ·try dsimp only at h ⊢
           refine bh <| es <| xs <| rD hI fun K236 RK236 hK236 gK236 => zz ?_
           obtain ⟨r237, h238, h⟩ := bs h
           refine cd (a_event_lens hI hU8T h238) <| zz ?_
           obtain ⟨r239, h240, h⟩ := bs h
           refine cd (a_region_Place hI h240) <| zz ?_
           subst hK236 gK236
           refine es <| xs <| rz ?_
           refine es <| xr ?_
           cases h
           exact en fr
   ·refine xt <| xs <| rz ?_
    refine es <| xr <| br <| er ?_
    cases h
    exact en fr
def g_cmp_isNaN_int64 (x_0 : Int) : Option (Bool) :=
 (some (x_0 != x_0))
theorem a_cmp_isNaN_int64 {I : World → Prop} (hI : Stab I) {x_0 : Int} {r : Bool} (h : g_cmp_isNaN_int64 x_0 = some r) : AFun Tryz.prog I 142 [.int .i64 x_0] (.bool r) := by
 have dd := dd_EP; have k := True.intro; have q := k; have rs := Tryz.results142
 unfold g_cmp_isNaN_int64 at h
 refine .en hI Tryz.func142 Tryz.ntmps142 ?_
 refine xs <| rz ?_
 refine es <| xs <| rz ?_
 refine es <| xr ?_
 cases h
 exact en fr
def g_cmp_Compare_int64 (x_0 : Int) (y_1 : Int) : Option (Int) :=
 ((g_cmp_isNaN_int64 x_0).bind fun r7 => ((g_cmp_isNaN_int64 y_1).bind fun r13 => (if r7 then (if r13 then (some 0) else (some (-1))) else (if r13 then (some 1) else (if (decide (x_0 < y_1)) then (some (-1)) else (if (decide (y_1 < x_0)) then (some 1) else (some 0)))))))
theorem a_cmp_Compare_int64 {I : World → Prop} (hI : Stab I) {x_0 : Int} {y_1 : Int} {r : Int} (h : g_cmp_Compare_int64 x_0 y_1 = some r) : AFun Tryz.prog I 109 [.int .i64 x_0, .int .i64 y_1] (.int .i64 r) := by
 have dd := dd_EP; have k := True.intro; have q := k; have rs := Tryz.results109
 unfold g_cmp_Compare_int64 at h
 refine .en hI Tryz.func109 Tryz.ntmps109 ?_
 refine xs <| rz ?_
 refine es <| xs <| rK fun K6 RK6 hK6 gK6 => zz ?_
 obtain ⟨r7, h8, h⟩ := bs h
 refine cw (a_cmp_isNaN_int64 hI h8) <| zz ?_
 subst hK6 gK6
 refine es <| xs <| rK fun K12 RK12 hK12 gK12 => zz ?_
 obtain ⟨r13, h14, h⟩ := bs h
 refine cw (a_cmp_isNaN_int64 hI h14) <| zz ?_
 subst hK12 gK12
 refine es <| xs <| xs <| rz ?_
 refine es ?_
 rcases iK k h with ⟨k, h⟩ | ⟨k, h⟩
 ·refine xt <| xs <| xs <| rz ?_
  refine es ?_
  rcases iK k h with ⟨k, h⟩ | ⟨k, h⟩
  ·refine xt <| xs <| rz ?_
   refine es <| xr <| er <| er ?_
   cases h
   exact en fr
  ·refine xf <| xk <| es <| xs <| rz ?_
   refine es <| xr <| er ?_
   cases h
   exact en fr
 ·refine xf <| xk <| es <| xs <| xs <| rz ?_
  refine es ?_
  rcases iK k h with ⟨k, h⟩ | ⟨k, h⟩
  ·refine xt <| xs <| rz ?_
   refine es <| xr <| er ?_
   cases h
   exact en fr
  ·refine xf <| xk <| es <| xs <| xs <| rz ?_
   refine es ?_
   rcases iK k h with ⟨k, h⟩ | ⟨k, h⟩
   ·refine xt <| xs <| rz ?_
    refine es <| xr <| er ?_
    cases h
    exact en fr
   ·refine xf <| xk <| es <| xs <| xs <| rz ?_
    refine es ?_
    rcases iK k h with ⟨k, h⟩ | ⟨k, h⟩
    ·refine xt <| xs <| rz ?_
     refine es <| xr <| er ?_
     cases h
     exact en fr
    ·refine xf <| xk <| es <| xs <| rz ?_
     refine es <| xr ?_
     cases h
     exact en fr
def g_cmp_Or_int_s1 (vals_0 : List Int) (x7 : Int) : Option (Nx (Int) (Int ⊕ Unit)) :=
 (if (decide (x7 < (vals_0.length : Int))) then ((atI vals_0 x7).bind fun y55 => (if (y55 != 0) then (some (.out (.inl y55))) else (some (.go (IntKind.i64.wrap (x7 + 1)))))) else (some (.out (.inr ()))))
def g_cmp_Or_int (vals_0 : List Int) : Option (Int) :=
 ((iter (g_cmp_Or_int_s1 vals_0) 0).bind fun e8 => (match e8 with | Sum.inl e8 => (some e8) | Sum.inr (e8) => (some 0)))
theorem a_cmp_Or_int {I : World → Prop} (hI : Stab I) {vals_0 : List Int} {r : Int} (h : g_cmp_Or_int vals_0 = some r) : AFun Tryz.prog I 108 [.sl (vals_0.map (D.int .i64))] (.int .i64 r) := by
 have dd := dd_EP; have k := True.intro; have q := k; have rs := Tryz.results108
 unfold g_cmp_Or_int at h
 refine .en hI Tryz.func108 Tryz.ntmps108 ?_
 refine xs <| rz ?_
 refine es <| xs <| rz ?_
 refine es <| xs <| xs <| rz ?_
 refine es <| xb ?_
 obtain ⟨e8, h63, h⟩ := bs h
 refine rb_loop (fun x7 => ⟨envL [(3, .int .i64 0), (6, .sl (vals_0.map (D.int .i64))), (7, .int .i64 (vals_0.length : Int)), (8, .int .i64 x7)], heapL [], 0, 18⟩) (fun w => match w with | Sum.inl _ => .ret | Sum.inr (_) => .exit 0) (fun w => match w with | Sum.inl e8 => ⟨envL [(2, .int .i64 e8)], heapL [], 0, 18⟩ | Sum.inr (e8) => ⟨envL [(3, .int .i64 0)], heapL [], 0, 18⟩) h63 (wk []) (by intro w; rcases w with w | w <;> simp) ?_ ?_
 ·clear h
  intro x7 y h
  unfold g_cmp_Or_int_s1 at h
  refine xs <| rz ?_
  refine es <| xs ?_
  rcases iK k h with ⟨k, h⟩ | ⟨k, h⟩
  ·refine xt <| xk <| es <| xs <| xb <| xs <| rK fun K54 RK54 hK54 gK54 => zz ?_
   obtain ⟨y55, q, h⟩ := bK q h
   refine zz ?_
   subst hK54 gK54
   refine es <| xs <| rz ?_
   refine es ?_
   rcases iK k h with ⟨k, h⟩ | ⟨k, h⟩
   ·refine xt <| xs <| rz ?_
    refine es <| xr <| br <| er ?_
    cases h
    exact en ⟨rfl, wk []⟩
   ·refine xf <| xk <| bn <| es <| rz ?_
    cases h
    exact en ⟨rfl, wk []⟩
  ·refine xf <| xx <| ee ?_
   cases h
   exact en ⟨rfl, wk []⟩
 ·rcases e8 with e8 | e8
  ·try dsimp only at h ⊢
   refine br <| er ?_
   cases h
   exact en fr
  ·try dsimp only at h ⊢
   refine bh <| es <| xs <| rz ?_
   refine es <| xr ?_
   cases h
   exact en fr
def g_event_Less (a_0 : A_Event) (b_1 : A_Event) : Option (Bool) :=
 ((g_cmp_Compare_int64 a_0.Span.In b_1.Span.In).bind fun r11 => ((g_cmp_Compare_int64 a_0.ID b_1.ID).bind fun r13 => ((g_cmp_Or_int [r11, r13]).bind fun r15 => (some (decide (r15 < 0))))))
theorem a_event_Less {I : World → Prop} (hI : Stab I) {a_0 : A_Event} {b_1 : A_Event} {r : Bool} (h : g_event_Less a_0 b_1 = some r) : AFun Tryz.prog I 63 [A_Event.d a_0, A_Event.d b_1] (.bool r) := by
 have dd := dd_EP; have k := True.intro; have q := k; have rs := Tryz.results63
 unfold g_event_Less at h
 refine .en hI Tryz.func63 Tryz.ntmps63 ?_
 refine xs <| rz ?_
 refine es <| xs <| rD hI fun K10 RK10 hK10 gK10 => zz ?_
 obtain ⟨r11, h12, h⟩ := bs h
 refine cd (a_cmp_Compare_int64 hI h12) <| zz ?_
 obtain ⟨r13, h14, h⟩ := bs h
 refine cd (a_cmp_Compare_int64 hI h14) <| zz ?_
 obtain ⟨r15, h16, h⟩ := bs h
 refine cd (a_cmp_Or_int hI h16) <| zz ?_
 subst hK10 gK10
 refine es <| xr ?_
 cases h
 exact en fr
def g_event_Len_s1 (r9 : (List Int)) (x11 : Int × Int) : Option (Nx (Int × Int) (Unit ⊕ Int)) :=
 (if (decide (x11.2 < (r9.length : Int))) then ((atI r9 x11.2).bind fun y62 => (if (decide (y62 < 0)) then (some (.out (.inl ()))) else (some (.go ((IntKind.i64.wrap (x11.1 + y62)), (IntKind.i64.wrap (x11.2 + 1))))))) else (some (.out (.inr x11.1))))
def g_event_Len (e_0 : A_Event) : Option (Int) :=
 ((g_event_lens e_0).bind fun r9 => ((iter (g_event_Len_s1 r9) ((if 0 > (IntKind.i64.wrap ((e_0.Rows.length : Int) - 1)) then 0 else (IntKind.i64.wrap ((e_0.Rows.length : Int) - 1))), 0)).bind fun e12 => (match e12 with | Sum.inl e12 => (some (-1)) | Sum.inr (e12) => (some e12))))
theorem a_event_Len {I : World → Prop} (hI : Stab I) (hU8T : ∀ w, I w → U8T w) {e_0 : A_Event} {r : Int} (h : g_event_Len e_0 = some r) : AFun Tryz.prog I 143 [A_Event.d e_0] (.int .i64 r) := by
 have dd := dd_EP; have k := True.intro; have q := k; have rs := Tryz.results143
 unfold g_event_Len at h
 refine .en hI Tryz.func143 Tryz.ntmps143 ?_
 refine xs <| rz ?_
 refine es <| xs <| rz ?_
 refine es <| xs <| xs <| rK fun K8 RK8 hK8 gK8 => zz ?_
 obtain ⟨r9, h10, h⟩ := bs h
 refine cw (a_event_lens hI hU8T h10) <| zz ?_
 subst hK8 gK8
 refine es <| xb ?_
 obtain ⟨e12, h71, h⟩ := bs h
 refine rb_loop (fun x11 => ⟨envL [(3, .int .i64 x11.1), (12, .sl (r9.map (D.int .i64))), (13, .int .i64 (r9.length : Int)), (14, .int .i64 x11.2)], heapL [], 0, 25⟩) (fun w => match w with | Sum.inl _ => .ret | Sum.inr (_) => .exit 0) (fun w => match w with | Sum.inl e12 => ⟨envL [(2, .int .i64 (-1))], heapL [], 0, 25⟩ | Sum.inr (e12) => ⟨envL [(3, .int .i64 e12)], heapL [], 0, 25⟩) h71 (wk []) (by intro w; rcases w with w | w <;> simp) ?_ ?_
 ·clear h
  intro x11 y h
  unfold g_event_Len_s1 at h
  refine xs <| rz ?_
  refine es <| xs ?_
  rcases iK k h with ⟨k, h⟩ | ⟨k, h⟩
  ·refine xt <| xk <| es <| xs <| xb <| xs <| rK fun K61 RK61 hK61 gK61 => zz ?_
   obtain ⟨y62, q, h⟩ := bK q h
   refine zz ?_
   subst hK61 gK61
   refine es <| xs <| xs <| rz ?_
   refine es ?_
   rcases iK k h with ⟨k, h⟩ | ⟨k, h⟩
   ·refine xt <| xs <| rz ?_
    refine es <| xr <| er <| br <| er ?_
    cases h
    exact en ⟨rfl, wk []⟩
   ·refine xf <| xk <| es <| rz ?_
    refine bn <| es <| rz ?_
    cases h
    exact en ⟨rfl, wk []⟩
  ·refine xf <| xx <| ee ?_
   cases h
   exact en ⟨rfl, wk []⟩
 ·rcases e12 with e12 | e12
  ·try dsimp only at h ⊢
   refine br <| er ?_
   cases h
   exact en fr
  ·try dsimp only at h ⊢
   refine bh <| es <| xs <| rz ?_
   refine es <| xr ?_
   cases h
   exact en fr
def g_document_anchored (d_0 : A_Document) (c_1 : A_Comment) (events_2 : MI Int) : Option (Int) :=
 (if (decide (c_1.Event < 1)) then (some 2) else (if (decide (d_0.Last < c_1.Event)) then (some 2) else (if c_1.Lost then (((if (c_1.From != 0) then (some true) else (some (c_1.To != 0))) : Option (Bool)).bind fun v17 => (if v17 then (some 2) else (some 0))) else (if (events_2.ks.contains c_1.Event) then (if (decide (c_1.From < 0)) then (some 2) else (if (decide (c_1.To ≤ c_1.From)) then (some 2) else ((atI d_0.Events (lookV events_2.ks events_2.vs c_1.Event 0)).bind fun y45 => ((g_event_Len y45).bind fun r47 => (if (decide (r47 < c_1.To)) then (some 2) else (some 0)))))) else (some 6)))))
theorem a_document_anchored {I : World → Prop} (hI : Stab I) (hU8T : ∀ w, I w → U8T w) {d_0 : A_Document} {c_1 : A_Comment} {events_2 : MI Int} {r : Int} (h : g_document_anchored d_0 c_1 events_2 = some r) : AFun Tryz.prog I 110 [A_Document.d d_0, A_Comment.d c_1, .mp .i64 events_2.ks (events_2.vs.map (D.int .i64))] (.int .i64 r) := by
 have dd := dd_EP; have k := True.intro; have q := k; have rs := Tryz.results110
 unfold g_document_anchored at h
 refine .en hI Tryz.func110 Tryz.ntmps110 ?_
 refine xs <| rz ?_
 refine es <| xs <| xs <| rK fun K5 RK5 hK5 gK5 => zz ?_
 rcases iK k h with ⟨k, h⟩ | ⟨k, h⟩
 ·refine zz ?_
  subst hK5 gK5
  refine es <| xt <| xs <| rz ?_
  refine es <| xr <| er ?_
  cases h
  exact en fr
 ·refine zz ?_
  subst hK5 gK5
  refine es ?_
  rcases iK k h with ⟨k, h⟩ | ⟨k, h⟩
  ·refine xt <| xs <| rz ?_
   refine es <| xr <| er ?_
   cases h
   exact en fr
  ·refine xf <| xk <| es <| xs <| xs <| rz ?_
   refine es ?_
   rcases iK k h with ⟨k, h⟩ | ⟨k, h⟩
   ·refine xt <| xs ?_
    obtain ⟨v17, h20, h⟩ := bs h
    refine rb_cut (fun v17 => ⟨envL [(28, .bool v17)], heapL [], 0, 59⟩) h20 ?_ ?_
    ·clear h
     intro v17 h
     refine rK fun K18 RK18 hK18 gK18 => zz ?_
     rcases iK k h with ⟨k, h⟩ | ⟨k, h⟩
     ·refine zz ?_
      subst hK18 gK18
      cases h
      exact en ⟨rfl, wk []⟩
     ·refine zz ?_
      subst hK18 gK18
      cases h
      exact en ⟨rfl, wk []⟩
    ·rcases iK k h with ⟨k, h⟩ | ⟨k, h⟩
     ·refine xt <| xs <| rz ?_
      refine es <| xr <| er <| er ?_
      cases h
      exact en fr
     ·refine xf <| xk <| es <| xs <| rz ?_
      refine es <| xr <| er ?_
      cases h
      exact en fr
   ·refine xf <| xk <| es <| xs <| rz ?_
    refine es <| xs <| xs <| rz ?_
    refine es ?_
    rcases iK k h with ⟨k, h⟩ | ⟨k, h⟩
    ·refine xf <| xk <| es <| xs <| xs <| rD hI fun K38 RK38 hK38 gK38 => zz ?_
     rcases iK k h with ⟨k, h⟩ | ⟨k, h⟩
     ·refine zz ?_
      subst hK38 gK38
      refine es <| xt <| xs <| rz ?_
      refine es <| xr <| er ?_
      cases h
      exact en fr
     ·refine zz ?_
      rcases iK k h with ⟨k, h⟩ | ⟨k, h⟩
      ·refine zz ?_
       subst hK38 gK38
       refine es <| xt <| xs <| rz ?_
       refine es <| xr <| er ?_
       cases h
       exact en fr
      ·refine zz ?_
       obtain ⟨y45, q, h⟩ := bK q h
       refine zz ?_
       obtain ⟨r47, h48, h⟩ := bs h
       refine cd (a_event_Len hI hU8T h48) <| zz ?_
       subst hK38 gK38
       refine es ?_
       rcases iK k h with ⟨k, h⟩ | ⟨k, h⟩
       ·refine xt <| xs <| rz ?_
        refine es <| xr <| er ?_
        cases h
        exact en fr
       ·refine xf <| xk <| es <| xs <| rz ?_
        refine es <| xr ?_
        cases h
        exact en fr
    ·refine xt <| xs <| rz ?_
     refine es <| xr <| er ?_
     cases h
     exact en fr
def g_document_comments_s1 (d_0 : A_Document) (events_1 : MI Int) (x10 : Int) : Option (Nx (Int) (Int ⊕ Unit)) :=
 (if (decide (x10 < (d_0.Comments.length : Int))) then ((atI d_0.Comments x10).bind fun y762 => (if (decide (y762.ID < 1)) then (some (.out (.inl 2))) else (if (decide (d_0.Last < y762.ID)) then (some (.out (.inl 2))) else (if (decide (0 < x10)) then ((atI d_0.Comments (IntKind.i64.wrap (x10 - 1))).bind fun y811 => (if (decide (y762.ID ≤ y811.ID)) then (some (.out (.inl 8))) else (if (events_1.ks.contains y762.ID) then (some (.out (.inl 7))) else ((g_document_anchored d_0 y762 events_1).bind fun r825 => (if (r825 != 0) then (some (.out (.inl r825))) else ((g_lines_Name y762.Author).bind fun r836 => (if r836 then ((g_charset_Valid y762.Text).bind fun r843 => (if r843 then (if (y762.Text == ([] : List UInt8)) then (some (.out (.inl 4))) else (if (decide (400 < (y762.Text.length : Int))) then (some (.out (.inl 9))) else (some (.go (IntKind.i64.wrap (x10 + 1)))))) else (some (.out (.inl 10))))) else (some (.out (.inl 5)))))))))) else (if (events_1.ks.contains y762.ID) then (some (.out (.inl 7))) else ((g_document_anchored d_0 y762 events_1).bind fun r870 => (if (r870 != 0) then (some (.out (.inl r870))) else ((g_lines_Name y762.Author).bind fun r881 => (if r881 then ((g_charset_Valid y762.Text).bind fun r888 => (if r888 then (if (y762.Text == ([] : List UInt8)) then (some (.out (.inl 4))) else (if (decide (400 < (y762.Text.length : Int))) then (some (.out (.inl 9))) else (some (.go (IntKind.i64.wrap (x10 + 1)))))) else (some (.out (.inl 10))))) else (some (.out (.inl 5)))))))))))) else (some (.out (.inr ()))))
def g_document_comments (d_0 : A_Document) (events_1 : MI Int) : Option (Int) :=
 (if (decide (64 < (d_0.Comments.length : Int))) then (some 9) else ((iter (g_document_comments_s1 d_0 events_1) 0).bind fun e11 => (match e11 with | Sum.inl e11 => (some e11) | Sum.inr (e11) => (some 0))))
theorem a_document_comments {I : World → Prop} (hI : Stab I) (hU8T : ∀ w, I w → U8T w) {d_0 : A_Document} {events_1 : MI Int} {r : Int} (h : g_document_comments d_0 events_1 = some r) : AFun Tryz.prog I 64 [A_Document.d d_0, .mp .i64 events_1.ks (events_1.vs.map (D.int .i64))] (.int .i64 r) := by
 have dd := dd_EP; have k := True.intro; have q := k; have rs := Tryz.results64
 unfold g_document_comments at h
 refine .en hI Tryz.func64 Tryz.ntmps64 ?_
 refine xs <| rz ?_
 refine es <| xs <| xs <| rz ?_
 refine es ?_
 rcases iK k h with ⟨k, h⟩ | ⟨k, h⟩
 ·refine xt <| xs <| rz ?_
  refine es <| xr <| er ?_
  cases h
  exact en fr
 ·refine xf <| xk <| es <| xs <| xs <| rz ?_
  refine es <| xb ?_
  obtain ⟨e11, h906, h⟩ := bs h
  refine rb_loop (fun x10 => ⟨envL [(1, .mp .i64 events_1.ks (events_1.vs.map (D.int .i64))), (2, .ptr 0 0), (15, .sl (d_0.Comments.map A_Comment.d)), (16, .int .i64 (d_0.Comments.length : Int)), (17, .int .i64 x10)], heapL [(0, .box none [.str d_0.Title, .str d_0.Lang, .int .u8 d_0.Rate, .bool d_0.Drop, .int .i64 d_0.Last, .sl (d_0.Regions.map A_Region.d), .sl (d_0.Events.map A_Event.d), .sl (d_0.Comments.map A_Comment.d)])], 1, 84⟩) (fun w => match w with | Sum.inl _ => .ret | Sum.inr (_) => .exit 0) (fun w => match w with | Sum.inl e11 => ⟨envL [(4, .int .i64 e11)], heapL [], 0, 84⟩ | Sum.inr (e11) => ⟨envL [], heapL [], 0, 84⟩) h906 (wk []) (by intro w; rcases w with w | w <;> simp) ?_ ?_
  ·clear h
   intro x10 y h
   unfold g_document_comments_s1 at h
   refine xs <| rz ?_
   refine es <| xs ?_
   rcases iK k h with ⟨k, h⟩ | ⟨k, h⟩
   ·refine xt <| xk <| es <| xs <| xb <| xs <| rK fun K761 RK761 hK761 gK761 => zz ?_
    obtain ⟨y762, q, h⟩ := bK q h
    refine zz ?_
    subst hK761 gK761
    refine es <| xs <| rz ?_
    refine es <| xs <| xb <| xs <| rK fun K798 RK798 hK798 gK798 => zz ?_
    rcases iK k h with ⟨k, h⟩ | ⟨k, h⟩
    ·refine zz ?_
     subst hK798 gK798
     refine es <| xt <| xs <| rz ?_
     refine es <| xr <| br <| er <| br <| er ?_
     cases h
     exact en ⟨rfl, wk []⟩
    ·refine zz ?_
     subst hK798 gK798
     refine es ?_
     rcases iK k h with ⟨k, h⟩ | ⟨k, h⟩
     ·refine xt <| xs <| rz ?_
      refine es <| xr <| br <| er <| br <| er ?_
      cases h
      exact en ⟨rfl, wk []⟩
     ·refine xf <| xs <| rD hI fun K809 RK809 hK809 gK809 => zz ?_
      rcases iK k h with ⟨k, h⟩ | ⟨k, h⟩
      ·refine zz ?_
       obtain ⟨y811, q, h⟩ := bK q h
       refine zz ?_
       subst hK809 gK809
       refine es ?_
       rcases iK k h with ⟨k, h⟩ | ⟨k, h⟩
       ·refine xt <| xs <| rz ?_
        refine es <| xr <| br <| er <| br <| er ?_
        cases h
        exact en ⟨rfl, wk []⟩
       ·refine xf <| xs <| rz ?_
        refine es ?_
        rcases iK k h with ⟨k, h⟩ | ⟨k, h⟩
        ·refine xt <| xs <| rz ?_
         refine es <| xr <| br <| er <| br <| er ?_
         cases h
         exact en ⟨rfl, wk []⟩
        ·refine xf <| xk <| bn <| es <| xs <| xs <| rK fun K824 RK824 hK824 gK824 => zz ?_
         obtain ⟨r825, h826, h⟩ := bs h
         refine cw (a_document_anchored hI hU8T h826) <| zz ?_
         subst hK824 gK824
         refine es <| xs <| rz ?_
         refine es ?_
         rcases iK k h with ⟨k, h⟩ | ⟨k, h⟩
         ·refine xt <| xs <| rz ?_
          refine es <| xr <| er <| br <| er ?_
          cases h
          exact en ⟨rfl, wk []⟩
         ·refine xf <| xk <| es <| xb <| xs <| rK fun K835 RK835 hK835 gK835 => zz ?_
          obtain ⟨r836, h837, h⟩ := bs h
          refine cw (a_lines_Name hI h837) <| zz ?_
          subst hK835 gK835
          refine es ?_
          rcases iK k h with ⟨k, h⟩ | ⟨k, h⟩
          ·refine xf <| xs <| rK fun K842 RK842 hK842 gK842 => zz ?_
           obtain ⟨r843, h844, h⟩ := bs h
           refine cw (a_charset_Valid hI hU8T h844) <| zz ?_
           subst hK842 gK842
           refine es ?_
           rcases iK k h with ⟨k, h⟩ | ⟨k, h⟩
           ·refine xf <| xs <| rz ?_
            refine es ?_
            rcases iK k h with ⟨k, h⟩ | ⟨k, h⟩
            ·refine xt <| xs <| rz ?_
             refine es <| xr <| br <| br <| er ?_
             cases h
             exact en ⟨rfl, wk []⟩
            ·refine xf <| xs <| rz ?_
             refine es ?_
             rcases iK k h with ⟨k, h⟩ | ⟨k, h⟩
             ·refine xt <| xs <| rz ?_
              refine es <| xr <| br <| br <| er ?_
              cases h
              exact en ⟨rfl, wk []⟩
             ·refine xf <| xk <| bn <| bn <| es <| rz ?_
              cases h
              exact en ⟨rfl, wk []⟩
           ·refine xt <| xs <| rz ?_
            refine es <| xr <| br <| br <| er ?_
            cases h
            exact en ⟨rfl, wk []⟩
          ·refine xt <| xs <| rz ?_
           refine es <| xr <| br <| br <| er ?_
           cases h
           exact en ⟨rfl, wk []⟩
      ·refine zz ?_
       subst hK809 gK809
       refine es <| xf <| xs <| rz ?_
       refine es ?_
       rcases iK k h with ⟨k, h⟩ | ⟨k, h⟩
       ·refine xt <| xs <| rz ?_
        refine es <| xr <| br <| er <| br <| er ?_
        cases h
        exact en ⟨rfl, wk []⟩
       ·refine xf <| xk <| bn <| es <| xs <| xs <| rK fun K869 RK869 hK869 gK869 => zz ?_
        obtain ⟨r870, h871, h⟩ := bs h
        refine cw (a_document_anchored hI hU8T h871) <| zz ?_
        subst hK869 gK869
        refine es <| xs <| rz ?_
        refine es ?_
        rcases iK k h with ⟨k, h⟩ | ⟨k, h⟩
        ·refine xt <| xs <| rz ?_
         refine es <| xr <| er <| br <| er ?_
         cases h
         exact en ⟨rfl, wk []⟩
        ·refine xf <| xk <| es <| xb <| xs <| rK fun K880 RK880 hK880 gK880 => zz ?_
         obtain ⟨r881, h882, h⟩ := bs h
         refine cw (a_lines_Name hI h882) <| zz ?_
         subst hK880 gK880
         refine es ?_
         rcases iK k h with ⟨k, h⟩ | ⟨k, h⟩
         ·refine xf <| xs <| rK fun K887 RK887 hK887 gK887 => zz ?_
          obtain ⟨r888, h889, h⟩ := bs h
          refine cw (a_charset_Valid hI hU8T h889) <| zz ?_
          subst hK887 gK887
          refine es ?_
          rcases iK k h with ⟨k, h⟩ | ⟨k, h⟩
          ·refine xf <| xs <| rz ?_
           refine es ?_
           rcases iK k h with ⟨k, h⟩ | ⟨k, h⟩
           ·refine xt <| xs <| rz ?_
            refine es <| xr <| br <| br <| er ?_
            cases h
            exact en ⟨rfl, wk []⟩
           ·refine xf <| xs <| rz ?_
            refine es ?_
            rcases iK k h with ⟨k, h⟩ | ⟨k, h⟩
            ·refine xt <| xs <| rz ?_
             refine es <| xr <| br <| br <| er ?_
             cases h
             exact en ⟨rfl, wk []⟩
            ·refine xf <| xk <| bn <| bn <| es <| rz ?_
             cases h
             exact en ⟨rfl, wk []⟩
          ·refine xt <| xs <| rz ?_
           refine es <| xr <| br <| br <| er ?_
           cases h
           exact en ⟨rfl, wk []⟩
         ·refine xt <| xs <| rz ?_
          refine es <| xr <| br <| br <| er ?_
          cases h
          exact en ⟨rfl, wk []⟩
   ·refine xf <| xx <| ee ?_
    cases h
    exact en ⟨rfl, wk []⟩
  ·rcases e11 with e11 | e11
   ·try dsimp only at h ⊢
    refine br <| er ?_
    cases h
    exact en fr
   ·try dsimp only at h ⊢
    refine bh <| es <| xs <| rz ?_
    refine es <| xr ?_
    cases h
    exact en fr
def g_document_Check_s1 (d_0 : A_Document) (x34 : Int × (List Int) × (List Int)) : Option (Nx (Int × (List Int) × (List Int)) (Int ⊕ ((List Int) × (List Int)))) :=
 (if (decide (x34.1 < (d_0.Events.length : Int))) then ((atI d_0.Events x34.1).bind fun y453 => ((g_event_Check y453 d_0.Regions).bind fun r459 => (if (r459 != 0) then (some (.out (.inl r459))) else (((if (decide (d_0.Last < y453.ID)) then (some (.out 2)) else (if (decide (0 < x34.1)) then ((atI d_0.Events (IntKind.i64.wrap (x34.1 - 1))).bind fun y512 => ((g_event_Less y512 y453).bind fun r514 => (if r514 then (if (x34.2.1.contains y453.ID) then (some (.out 7)) else (some (.go ()))) else (some (.out 8))))) else (if (x34.2.1.contains y453.ID) then (some (.out 7)) else (some (.go ()))))) : Option (Nx (Unit) (Int))).bind fun w530 => match w530 with | .go v498 => (some (.go ((IntKind.i64.wrap (x34.1 + 1)), (putK x34.2.1 y453.ID), (putV x34.2.1 x34.2.2 y453.ID x34.1)))) | .out e531 => (some (.out (.inl e531))))))) else (some (.out (.inr (x34.2.1, x34.2.2)))))
def g_document_Check (d_0 : A_Document) : Option (Int) :=
 ((g_document_header d_0).bind fun r7 => (if (r7 != 0) then (some r7) else ((g_region_CheckList d_0.Regions).bind fun r18 => (if (r18 != 0) then (some r18) else (if (decide (400 < (d_0.Events.length : Int))) then (some 9) else ((iter (g_document_Check_s1 d_0) (0, ([] : List Int), ([] : List Int))).bind fun e35 => (match e35 with | Sum.inl e35 => (some e35) | Sum.inr (e35) => ((g_document_comments d_0 (MI.mk e35.1 e35.2)).bind fun r539 => (some r539)))))))))
theorem a_document_Check {I : World → Prop} (hI : Stab I) (hShp : ∀ w, I w → Shp w) (hU8T : ∀ w, I w → U8T w) {d_0 : A_Document} {r : Int} (h : g_document_Check d_0 = some r) : AFun Tryz.prog I 26 [A_Document.d d_0] (.int .i64 r) := by
 have dd := dd_EP; have k := True.intro; have q := k; have rs := Tryz.results26
 unfold g_document_Check at h
 refine .en hI Tryz.func26 Tryz.ntmps26 ?_
 refine xs <| rz ?_
 refine es <| xs <| xs <| rK fun K6 RK6 hK6 gK6 => zz ?_
 obtain ⟨r7, h8, h⟩ := bs h
 refine cw (a_document_header hI hU8T h8) <| zz ?_
 subst hK6 gK6
 refine es <| xs <| rz ?_
 refine es ?_
 rcases iK k h with ⟨k, h⟩ | ⟨k, h⟩
 ·refine xt <| xs <| rz ?_
  refine es <| xr <| er ?_
  cases h
  exact en fr
 ·refine xf <| xk <| es <| xs <| xs <| rK fun K17 RK17 hK17 gK17 => zz ?_
  obtain ⟨r18, h19, h⟩ := bs h
  refine cw (a_region_CheckList hI h19) <| zz ?_
  subst hK17 gK17
  refine es <| xs <| rz ?_
  refine es ?_
  rcases iK k h with ⟨k, h⟩ | ⟨k, h⟩
  ·refine xt <| xs <| rz ?_
   refine es <| xr <| er ?_
   cases h
   exact en fr
  ·refine xf <| xk <| es <| xs <| xs <| rz ?_
   refine es ?_
   rcases iK k h with ⟨k, h⟩ | ⟨k, h⟩
   ·refine xt <| xs <| rz ?_
    refine es <| xr <| er ?_
    cases h
    exact en fr
   ·refine xf <| xk <| es <| xs <| rz ?_
    refine es <| xs <| xs <| rz ?_
    refine es <| xb ?_
    obtain ⟨e35, h534, h⟩ := bs h
    refine rb_loop (fun x34 => ⟨envL [(1, .ptr 0 0), (5, .omp 1), (28, .sl (d_0.Events.map A_Event.d)), (29, .int .i64 (d_0.Events.length : Int)), (30, .int .i64 x34.1)], heapL [(0, .box none [.str d_0.Title, .str d_0.Lang, .int .u8 d_0.Rate, .bool d_0.Drop, .int .i64 d_0.Last, .sl (d_0.Regions.map A_Region.d), .sl (d_0.Events.map A_Event.d), .sl (d_0.Comments.map A_Comment.d)]), (1, .mp .i64 x34.2.1 (x34.2.2.map (D.int .i64)) false)], 2, 79⟩) (fun w => match w with | Sum.inl _ => .ret | Sum.inr (_) => .exit 0) (fun w => match w with | Sum.inl e35 => ⟨envL [(2, .int .i64 e35)], heapL [], 0, 79⟩ | Sum.inr (e35) => ⟨envL [(1, .ptr 0 0), (5, .omp 1)], heapL [(0, .box none [.str d_0.Title, .str d_0.Lang, .int .u8 d_0.Rate, .bool d_0.Drop, .int .i64 d_0.Last, .sl (d_0.Regions.map A_Region.d), .sl (d_0.Events.map A_Event.d), .sl (d_0.Comments.map A_Comment.d)]), (1, .mp .i64 e35.1 (e35.2.map (D.int .i64)) false)], 2, 79⟩) h534 (wk [(1, some 17)]) (by intro w; rcases w with w | w <;> simp) ?_ ?_
    ·clear h
     intro x34 y h
     unfold g_document_Check_s1 at h
     refine xs <| rz ?_
     refine es <| xs ?_
     rcases iK k h with ⟨k, h⟩ | ⟨k, h⟩
     ·refine xt <| xk <| es <| xs <| xb <| xs <| rK fun K452 RK452 hK452 gK452 => zz ?_
      obtain ⟨y453, q, h⟩ := bK q h
      refine zz ?_
      subst hK452 gK452
      refine es <| xs <| xs <| rK fun K458 RK458 hK458 gK458 => zz ?_
      obtain ⟨r459, h460, h⟩ := bs h
      refine cw (a_event_Check hI hShp hU8T h460) <| zz ?_
      subst hK458 gK458
      refine es <| xs <| rz ?_
      refine es ?_
      rcases iK k h with ⟨k, h⟩ | ⟨k, h⟩
      ·refine xt <| xs <| rz ?_
       refine es <| xr <| er <| br <| er ?_
       cases h
       exact en ⟨rfl, wk []⟩
      ·refine xf <| xk <| es <| xs <| rz ?_
       refine es ?_
       obtain ⟨w530, h529, h⟩ := bs h
       refine rb_seg (fun v498 => ⟨envL [(1, .ptr 0 0), (5, .omp 1), (6, .int .i64 x34.1), (7, .ptr 2 0), (28, .sl (d_0.Events.map A_Event.d)), (29, .int .i64 (d_0.Events.length : Int)), (30, .int .i64 x34.1)], heapL [(0, .box none [.str d_0.Title, .str d_0.Lang, .int .u8 d_0.Rate, .bool d_0.Drop, .int .i64 d_0.Last, .sl (d_0.Regions.map A_Region.d), .sl (d_0.Events.map A_Event.d), .sl (d_0.Comments.map A_Comment.d)]), (1, .mp .i64 x34.2.1 (x34.2.2.map (D.int .i64)) false), (2, .box none [.int .i64 y453.ID, .int .i64 y453.Span.In, .int .i64 y453.Span.Out, .str y453.Region, .int .u8 y453.Kind, .str y453.Speaker, .sl (y453.Rows.map A_Row.d)])], 3, 79⟩) (fun _ => .ret) (fun e531 => ⟨envL [(2, .int .i64 e531)], heapL [], 0, 79⟩) h529 (by intro w; simp) ?_ ?_ ?_
       ·clear h
        intro w530 h
        refine xb <| xs <| rz ?_
        refine es ?_
        rcases iK k h with ⟨k, h⟩ | ⟨k, h⟩
        ·refine xt <| xs <| rz ?_
         refine es <| xr <| br ?_
         cases h
         exact en ⟨rfl, wk []⟩
        ·refine xf <| xs <| rD hI fun K510 RK510 hK510 gK510 => zz ?_
         rcases iK k h with ⟨k, h⟩ | ⟨k, h⟩
         ·refine zz ?_
          obtain ⟨y512, q, h⟩ := bK q h
          refine zz ?_
          obtain ⟨r514, h515, h⟩ := bs h
          refine cd (a_event_Less hI h515) <| zz ?_
          subst hK510 gK510
          refine es ?_
          rcases iK k h with ⟨k, h⟩ | ⟨k, h⟩
          ·refine xf <| xs <| rz ?_
           refine es ?_
           rcases iK k h with ⟨k, h⟩ | ⟨k, h⟩
           ·refine xt <| xs <| rz ?_
            refine es <| xr <| br ?_
            cases h
            exact en ⟨rfl, wk []⟩
           ·refine xf <| xk <| bn ?_
            cases h
            exact en ⟨rfl, wk [(2, some 6)]⟩
          ·refine xt <| xs <| rz ?_
           refine es <| xr <| br ?_
           cases h
           exact en ⟨rfl, wk []⟩
         ·refine zz ?_
          subst hK510 gK510
          refine es <| xf <| xs <| rz ?_
          refine es ?_
          rcases iK k h with ⟨k, h⟩ | ⟨k, h⟩
          ·refine xt <| xs <| rz ?_
           refine es <| xr <| br ?_
           cases h
           exact en ⟨rfl, wk []⟩
          ·refine xf <| xk <| bn ?_
           cases h
           exact en ⟨rfl, wk [(2, some 6)]⟩
       ·rintro v498 rfl
        dsimp only at h
        refine rz ?_
        refine bn <| es <| rz ?_
        cases h
        exact en ⟨rfl, wk []⟩
       ·rintro e531 rfl
        dsimp only at h
        refine br <| er ?_
        cases h
        exact en ⟨rfl, wk []⟩
     ·refine xf <| xx <| ee ?_
      cases h
      exact en ⟨rfl, wk []⟩
    ·rcases e35 with e35 | e35
     ·try dsimp only at h ⊢
      refine br <| er ?_
      cases h
      exact en fr
     ·try dsimp only at h ⊢
      refine bh <| es <| xs <| rK fun K538 RK538 hK538 gK538 => zz ?_
      obtain ⟨r539, h540, h⟩ := bs h
      refine cw (a_document_comments hI hU8T h540) <| zz ?_
      subst hK538 gK538
      refine es <| xr ?_
      cases h
      exact en fr
end Go.Proofs.YtalfcmgcjdkolaaGreatDoor
namespace Go.Proofs.YtalfcmgcjdkolaaGreatDoor
open Go.RowKit
set_option maxRecDepth 100000
set_option maxHeartbeats 10000000
theorem dd_EQ : (∀ x, A_Span.d x = .agg [.int .i64 x.In, .int .i64 x.Out]) ∧ (∀ x, A_Word.d x = .agg [.str x.Text, .int .i64 x.Span.In, .int .i64 x.Span.Out]) ∧ (∀ x, T_arr6_Int.d x = .agg [.int .i64 x.a0, .int .i64 x.a1, .int .i64 x.a2, .int .i64 x.a3, .int .i64 x.a4, .int .i64 x.a5]) ∧ (∀ x, A_Penalties.d x = .agg [.int .i64 x.Sg.a0, .int .i64 x.Sg.a1, .int .i64 x.Sg.a2, .int .i64 x.Sg.a3, .int .i64 x.Sg.a4, .int .i64 x.Sg.a5, .int .i64 x.Rgd, .int .i64 x.Row, .int .i64 x.Event, .int .i64 x.Fast, .int .i64 x.Gap, .int .i64 x.Shot]) ∧ (∀ x, A_Profile.d x = .agg [.str x.Name, .int .i64 x.Reading, .int .i64 x.MinFrames, .int .i64 x.MxF, .int .i64 x.MinGap, .int .i64 x.ShB, .int .i64 x.ShA, .int .i64 x.Rows, .int .i64 x.Cols, .str x.Fbd, .int .i64 x.SfT, .int .i64 x.SfB, .int .i64 x.SfL, .int .i64 x.SfR]) ∧ (∀ x, A_Speech.d x = .agg [.int .u8 x.Rate, .sl (x.Words.map A_Word.d), .sl (x.Shots.map (D.int .i64)), .int .i64 x.Table.Sg.a0, .int .i64 x.Table.Sg.a1, .int .i64 x.Table.Sg.a2, .int .i64 x.Table.Sg.a3, .int .i64 x.Table.Sg.a4, .int .i64 x.Table.Sg.a5, .int .i64 x.Table.Rgd, .int .i64 x.Table.Row, .int .i64 x.Table.Event, .int .i64 x.Table.Fast, .int .i64 x.Table.Gap, .int .i64 x.Table.Shot, .str x.House.Name, .int .i64 x.House.Reading, .int .i64 x.House.MinFrames, .int .i64 x.House.MxF, .int .i64 x.House.MinGap, .int .i64 x.House.ShB, .int .i64 x.House.ShA, .int .i64 x.House.Rows, .int .i64 x.House.Cols, .str x.House.Fbd, .int .i64 x.House.SfT, .int .i64 x.House.SfB, .int .i64 x.House.SfL, .int .i64 x.House.SfR]) ∧ (∀ x, A_Part.d x = .agg [.int .i64 x.From, .int .i64 x.To, .sl (x.Breaks.map (D.int .i64)), .int .i64 x.Span.In, .int .i64 x.Span.Out]) ∧ (∀ x, A_Segments.d x = .agg [.sl (x.Parts.map A_Part.d), .int .i64 x.Cost, .sl (x.Potentials.map (D.int .i64))]) ∧ (∀ x, A_Region.d x = .agg [.str x.Name, .int .i64 x.Top, .int .i64 x.Height, .int .i64 x.Left, .int .i64 x.Width, .int .u8 x.Align, .bool x.Bottom]) ∧ (∀ x, A_Style.d x = .agg [.int .u8 x.Color, .bool x.Italic, .bool x.Underline]) ∧ (∀ x, A_Run.d x = .agg [.str x.Text, .int .u8 x.Style.Color, .bool x.Style.Italic, .bool x.Style.Underline, .str x.Ruby]) ∧ (∀ x, A_Row.d x = .agg [.sl (x.Runs.map A_Run.d)]) ∧ (∀ x, A_Event.d x = .agg [.int .i64 x.ID, .int .i64 x.Span.In, .int .i64 x.Span.Out, .str x.Region, .int .u8 x.Kind, .str x.Speaker, .sl (x.Rows.map A_Row.d)]) ∧ (∀ x, A_Comment.d x = .agg [.int .i64 x.ID, .int .i64 x.Event, .int .i64 x.From, .int .i64 x.To, .str x.Author, .str x.Text, .bool x.Done, .bool x.Lost]) ∧ (∀ x, A_Document.d x = .agg [.str x.Title, .str x.Lang, .int .u8 x.Rate, .bool x.Drop, .int .i64 x.Last, .sl (x.Regions.map A_Region.d), .sl (x.Events.map A_Event.d), .sl (x.Comments.map A_Comment.d)]) := ⟨fun _ => rfl, fun _ => rfl, fun _ => rfl, fun _ => rfl, fun _ => rfl, fun _ => rfl, fun _ => rfl, fun _ => rfl, fun _ => rfl, fun _ => rfl, fun _ => rfl, fun _ => rfl, fun _ => rfl, fun _ => rfl, fun _ => rfl⟩
def g_law38_SegmentFits (s_0 : A_Speech) : Option (Bool) :=
 ((g_law38_awake).bind fun r7 => (if r7 then ((g_law38_few s_0).bind fun r14 => ((g_segment_Segment r14).bind fun r20 => (if (r20.2 != 0) then (some true) else ((g_segment_Events r14 r20.1.Parts).bind fun r31 => (if (r31.2 == 0) then ((g_document_Check (A_Document.mk [] [] r14.Rate false (r31.1.length : Int) [] r31.1 [])).bind fun r41 => (some (r41 == 0))) else (some false)))))) else (some false)))
theorem a_law38_SegmentFits {I : World → Prop} (hI : Stab I) (hShp : ∀ w, I w → Shp w) (hU8T : ∀ w, I w → U8T w) {s_0 : A_Speech} {r : Bool} (h : g_law38_SegmentFits s_0 = some r) : AFun Tryz.prog I 7 [A_Speech.d s_0] (.bool r) := by
 have dd := dd_EQ; have k := True.intro; have q := k; have rs := Tryz.results7
 unfold g_law38_SegmentFits at h
 refine .en hI Tryz.func7 Tryz.ntmps7 ?_
 refine xs <| rz ?_
 refine es <| xs <| xs <| rK fun K6 RK6 hK6 gK6 => zz ?_
 obtain ⟨r7, h8, h⟩ := bs h
 refine cw (a_law38_awake hI hShp hU8T h8) <| zz ?_
 subst hK6 gK6
 refine es ?_
 rcases iK k h with ⟨k, h⟩ | ⟨k, h⟩
 ·refine xf <| xk <| es <| xs <| rK fun K13 RK13 hK13 gK13 => zz ?_
  obtain ⟨r14, h15, h⟩ := bs h
  refine cw (a_law38_few hI h15) <| zz ?_
  subst hK13 gK13
  refine es <| xs <| rK fun K19 RK19 hK19 gK19 => zz ?_
  obtain ⟨r20, h21, h⟩ := bs h
  refine cw (a_segment_Segment hI hShp hU8T h21) <| zz ?_
  subst hK19 gK19
  refine es <| xs <| xs <| rz ?_
  refine es ?_
  rcases iK k h with ⟨k, h⟩ | ⟨k, h⟩
  ·refine xt <| xs <| rz ?_
   refine es <| xr <| er ?_
   cases h
   exact en fr
  ·refine xf <| xk <| es <| xs <| rK fun K30 RK30 hK30 gK30 => zz ?_
   obtain ⟨r31, h32, h⟩ := bs h
   refine cw (a_segment_Events hI hShp hU8T h32) <| zz ?_
   subst hK30 gK30
   refine es <| xs <| rz ?_
   refine es <| xs <| rK fun K39 RK39 hK39 gK39 => zz ?_
   rcases iK k h with ⟨k, h⟩ | ⟨k, h⟩
   ·refine zz ?_
    obtain ⟨r41, h42, h⟩ := bs h
    refine cw (a_document_Check hI hShp hU8T h42) <| zz ?_
    subst hK39 gK39
    refine es <| xr ?_
    cases h
    exact en fr
   ·refine zz ?_
    subst hK39 gK39
    refine es <| xr ?_
    cases h
    exact en fr
 ·refine xt <| xs <| rz ?_
  refine es <| xr <| er ?_
  cases h
  exact en fr
end Go.Proofs.YtalfcmgcjdkolaaGreatDoor
namespace Go.Proofs.YtalfcmgcjdkolaaGreatDoor
set_option maxRecDepth 100000
set_option maxHeartbeats 10000000
def nd : Bool → List UInt8 → Bool
  | _, [] => true
  | p, b :: l => if b.toNat = 32 then !p && nd true l else nd false l
theorem nd_weak : ∀ (l : List UInt8) {p : Bool}, nd p l = true → nd false l = true
  | [], _, _ => rfl
  | b :: l, p, h => by
    unfold nd at h ⊢
    split
    · rename_i hb
      rw [if_pos hb] at h
      simp at h ⊢
      exact h.2
    · rename_i hb
      rw [if_neg hb] at h
      exact h
theorem nd_tail {p : Bool} {b : UInt8} {l : List UInt8} (h : nd p (b :: l) = true) : nd false l = true := by
  unfold nd at h
  split at h
  · simp at h; exact nd_weak l h.2
  · exact h
theorem nd_drop : ∀ (i : Nat) (l : List UInt8) {p : Bool}, nd p l = true → nd false (l.drop i) = true
  | 0, l, _, h => nd_weak l h
  | i + 1, [], _, _ => rfl
  | i + 1, b :: l, p, h => by
    rw [List.drop_succ_cons]
    exact nd_drop i l (nd_tail h)
theorem nd_app : ∀ (x y : List UInt8) {p : Bool}, nd p (x ++ y) = true → nd p x = true
  | [], _, _, _ => rfl
  | b :: x, y, p, h => by
    rw [List.cons_append] at h
    unfold nd at h ⊢
    split at h
    · rename_i hb
      rw [if_pos hb]
      simp at h ⊢
      exact ⟨h.1, nd_app x y h.2⟩
    · rename_i hb
      rw [if_neg hb]
      exact nd_app x y h
theorem nd_end : ∀ (z : List UInt8) {p : Bool}, nd p (z ++ [32, 32]) = false
  | [], p => by cases p <;> rfl
  | b :: z, p => by
    rw [List.cons_append]
    unfold nd
    rw [nd_end z, nd_end z]
    split <;> simp
theorem nd_word : ∀ (x : List UInt8) (y : List UInt8) (p : Bool), x ≠ [] → hasSp x = false → nd p (x ++ y) = nd false y
  | [], _, _, h, _ => absurd rfl h
  | b :: x, y, p, _, hs => by
    have hb : ¬ b.toNat = 32 := by
      intro e
      simp [hasSp, e] at hs
    have hx : hasSp x = false := by
      simp only [hasSp, List.any_cons, Bool.or_eq_false_iff] at hs ⊢
      exact hs.2
    rw [List.cons_append]
    rw [nd, if_neg hb]
    by_cases h : x = []
    · subst h; rfl
    · exact nd_word x y false h hx
theorem nd_spT : ∀ (l : List A_Token), (∀ t ∈ l, t.Text ≠ [] ∧ hasSp t.Text = false) → nd true (spT l) = true
  | [], _ => rfl
  | t :: l, h => by
    obtain ⟨h1, h2⟩ := h t (by simp)
    have ih := nd_spT l fun u hu => h u (by simp [hu])
    have e : spT (t :: l) = t.Text ++ (32 :: spT l) := by simp [spT]
    rw [e, nd_word _ _ _ h1 h2, nd, if_pos (by decide)]
    simpa using ih
def Cln (t : List UInt8) : Prop := nd true (t ++ [32]) = true
theorem cln_join {l : List A_Token} (hne : l ≠ []) (h : ∀ t ∈ l, t.Text ≠ [] ∧ hasSp t.Text = false) : Cln (joinT l) := by
  unfold Cln
  rw [join_sp hne]
  exact nd_spT l h
theorem cln_head {b : UInt8} {l : List UInt8} (h : Cln (b :: l)) : ¬ b.toNat = 32 := by
  intro e
  unfold Cln at h
  rw [List.cons_append, nd, if_pos e] at h
  simp at h
theorem cln_last {z : List UInt8} {b : UInt8} (h : Cln (z ++ [b])) : ¬ b.toNat = 32 := by
  intro e
  obtain rfl : b = 32 := UInt8.toNat_inj.1 e
  unfold Cln at h
  rw [List.append_assoc, show ([32] : List UInt8) ++ [32] = [32, 32] from rfl, nd_end] at h
  cases h
theorem cln_two {t : List UInt8} (h : Cln t) : Lib.contains t [32, 32] = false := by
  unfold Lib.contains
  rcases Lib.index_spec t [32, 32] with ⟨h1, _⟩ | ⟨i, _, _, h3, _⟩
  · rw [h1]; rfl
  · exfalso
    unfold Lib.occAt at h3
    have h4 := nd_drop i t (nd_app t [32] h)
    rw [List.isPrefixOf_iff_prefix] at h3
    obtain ⟨r, hr⟩ := h3
    rw [← hr] at h4
    cases h4
theorem cln_ne {t : List UInt8} (h : Cln t) : t ≠ [] := by
  rintro rfl
  cases h
theorem rows_cln {p : A_Paragraph} (hp : ∀ t ∈ p.Tokens, t.Text ≠ [] ∧ hasSp t.Text = false) : ∀ {i : Nat} {L : List Nat}, RPath p i L → ∀ t ∈ rowsT p i L, Cln t := by
  intro i L h
  induction h with
  | nil => simp [rowsT]
  | @cons i j L h1 h2 h3 h4 ih =>
    intro t ht
    simp only [rowsT, List.mem_cons] at ht
    rcases ht with rfl | ht
    · refine cln_join (fun e => ?_) fun u hu => hp u (List.mem_of_mem_drop (List.mem_of_mem_take hu))
      have := congrArg List.length e
      rw [seg_len h2] at this
      simp at this; omega
    · exact ih t ht
theorem evrow_prog {t : List UInt8} (hg : gv t = true) (hl : chL t ≤ 32) (hc : Cln t) : g_event_row (rowE t) = some 0 := by
  have hne := cln_ne hc
  have hlen : t.length ≤ 1000 := by have := gv_len hg hl; omega
  have hb : (t == ([] : List UInt8)) = false := by simpa using hne
  have hst : g_style_Check (rowE t) = some 0 := by
    have key : iter (g_style_Check_s1 (rowE t)) 0 = some (.inr ()) := by
      refine iter_idx 1 (by omega) (fun _ => (.inr () : Int ⊕ Unit)) (fun i hi => .inl ⟨?_, rfl⟩) ?_
      · obtain rfl : i = 0 := by omega
        unfold g_style_Check_s1
        rw [if_pos (by simp [rowE]), show atI (rowE t).Runs ((0 : Nat) : Int) = some ⟨t, ⟨0, false, false⟩, []⟩ from rfl]
        simp only [Option.bind_some]
        rw [prog_Valid_eq t (by omega), prog_Valid_eq [] (by simp), hg, gv_nil, hb]
        rfl
      · unfold g_style_Check_s1
        rw [if_neg (by simp [rowE])]
    unfold g_style_Check
    rw [if_neg (by simp [rowE]), key]
    rfl
  unfold g_event_row
  rw [hst, plain_row hlen, len_row hg hlen]
  simp only [Option.bind_some, bne_self_eq_false, Bool.false_eq_true, if_false, hb]
  obtain ⟨b, r, rfl⟩ : ∃ b r, t = b :: r := by
    cases t with
    | nil => exact absurd rfl hne
    | cons b r => exact ⟨b, r, rfl⟩
  have h0 := cln_head hc
  obtain ⟨z, y, hz⟩ : ∃ z y, b :: r = z ++ [y] := ⟨(b :: r).dropLast, (b :: r).getLast (by simp), (List.dropLast_concat_getLast (by simp)).symm⟩
  have h1 : ¬ y.toNat = 32 := cln_last (z := z) (by rw [← hz]; exact hc)
  have hat : atI (b :: r) (IntKind.i64.wrap (((b :: r).length : Int) - 1)) = some y := by
    rw [hz]
    have hl2 : (z ++ [y]).length = z.length + 1 := by simp
    rw [wr64 (by rw [hz] at hlen; omega), hl2, show (((z.length + 1 : Nat) : Int) - 1) = (z.length : Int) by omega]
    exact getI (by rw [List.getElem?_append_right (Nat.le_refl _)]; simp)
  rw [show atI (b :: r) 0 = some b from rfl, hat]
  simp only [Option.bind_some]
  rw [if_neg (by simp only [beq_iff_eq]; omega), if_neg (by simp only [beq_iff_eq]; omega)]
  unfold g_strings_Contains2
  rw [if_pos (by omega), cln_two hc]
  simp only [Option.bind_some, Bool.false_eq_true, if_false]
  rw [if_neg (by simpa using hl)]
theorem usable_dft : g_region_usable ⟨[], 11, 4, 0, 32, 2, true⟩ = some true := by decide +kernel
theorem place_dft {ls : List Int} (hn : ls.length ≤ 4) (h : ∀ x ∈ ls, 0 ≤ x ∧ x ≤ 32) : ∃ sp, g_region_Place ⟨[], 11, 4, 0, 32, 2, true⟩ ls = some (sp, 0) := by
  have key : ∃ e, iter (g_region_Place_s1 ⟨[], 11, 4, 0, 32, 2, true⟩ ls) ([], 0) = some e ∧ ∃ sp, e = .inr sp := by
    refine iter_post (fun x => ∃ k : Nat, x.2 = (k : Int) ∧ k ≤ ls.length ∧ x.1.length = k) (fun x => ls.length - x.2.toNat) (fun (e : Int ⊕ List A_Spot) => ∃ sp, e = .inr sp) (x := ([], 0)) ⟨0, rfl, by omega, rfl⟩ (by show ls.length - 0 < _; omega) ?_
    rintro ⟨m, x⟩ ⟨k, hx, hk, hm⟩
    dsimp only at hx hm ⊢
    subst hx
    unfold g_region_Place_s1
    dsimp only
    by_cases hh : k < ls.length
    · left
      obtain ⟨a0, a1⟩ := h ls[k] (List.getElem_mem hh)
      rw [if_pos (by simpa using hh), atI_nat hh]
      simp only [Option.bind_some]
      rw [if_neg (by simpa using a0), if_neg (by simpa using a1), if_neg (by decide), if_pos (by decide), if_pos (by omega), wr64 (x := (k : Int) + 1) (by omega)]
      exact ⟨_, rfl, ⟨k + 1, rfl, hh, by simp [hm]⟩, by dsimp only; omega⟩
    · right
      rw [if_neg (by simpa using hh)]
      exact ⟨_, rfl, _, rfl⟩
  obtain ⟨e, he, sp, rfl⟩ := key
  refine ⟨sp, ?_⟩
  unfold g_region_Place
  rw [usable_dft]
  simp only [Option.bind_some, if_true]
  rw [if_neg (by simp; omega), he]
  rfl
theorem kind_1 : g_event_KindName 1 = some [68, 73, 65, 76, 79, 71, 85, 69] := by decide +kernel
theorem event_prog {id : Int} {sp : A_Span} {R : List (List UInt8)} (hid : 1 ≤ id ∧ id ≤ 1099511627776) (hs : 0 ≤ sp.In ∧ sp.In < sp.Out ∧ sp.Out ≤ 5184000) (hR : 1 ≤ R.length ∧ R.length ≤ 4) (h : ∀ t ∈ R, gv t = true ∧ chL t ≤ 32 ∧ Cln t) :
    g_event_Check ⟨id, sp, [], 1, [], R.map rowE⟩ [] = some 0 := by
  have hch : ∀ t ∈ R, 0 ≤ chL t := by
    intro t ht
    unfold chL
    rw [if_pos (h t ht).1]
    omega
  have hrows : iter (g_event_Check_s1 ⟨id, sp, [], 1, [], R.map rowE⟩) 0 = some (.inr ()) := by
    refine iter_idx R.length (by omega) (fun _ => (.inr () : Int ⊕ Unit)) (fun i hi => .inl ⟨?_, rfl⟩) ?_
    · obtain ⟨a, b, c⟩ := h R[i] (List.getElem_mem hi)
      unfold g_event_Check_s1
      dsimp only
      rw [List.length_map, if_pos (by simpa using hi), show atI (R.map rowE) (i : Int) = some (rowE R[i]) by rw [atI_nat (by simpa using hi)]; simp]
      simp only [Option.bind_some]
      rw [evrow_prog a b c]
      simp only [Option.bind_some]
      rw [if_neg (by decide), wr64 (x := (i : Int) + 1) (by omega)]
    · unfold g_event_Check_s1
      dsimp only
      rw [List.length_map, if_neg (by simp)]
  have hlens : g_event_lens ⟨id, sp, [], 1, [], R.map rowE⟩ = some (R.map chL) := by
    have key : iter (g_event_lens_s1 ⟨id, sp, [], 1, [], R.map rowE⟩) ([], 0) = some (R.map chL) := by
      refine iter_of (fun x e => e = R.map chL ∧ ∃ i : Nat, x.2 = (i : Int) ∧ i ≤ R.length ∧ x.1 = (R.take i).map chL) (fun x => R.length - x.2.toNat) ?_ (x := ([], 0)) ⟨rfl, 0, rfl, by omega, by simp⟩ (by show R.length - 0 < _; omega)
      rintro ⟨m, x⟩ e ⟨rfl, i, hx, hi, hm⟩
      dsimp only at hx hm ⊢
      subst hx hm
      unfold g_event_lens_s1
      dsimp only
      rw [List.length_map]
      by_cases hh : i < R.length
      · left
        obtain ⟨a, b, c⟩ := h R[i] (List.getElem_mem hh)
        rw [if_pos (by simpa using hh), show atI (R.map rowE) (i : Int) = some (rowE R[i]) by rw [atI_nat (by simpa using hh)]; simp]
        simp only [Option.bind_some]
        rw [len_row a (by have := gv_len a b; omega)]
        simp only [Option.bind_some]
        rw [if_pos (by simp; omega), wr64 (x := (i : Int) + 1) (by omega)]
        refine ⟨_, rfl, ⟨by first | rfl | trivial, i + 1, rfl, hh, ?_⟩, by dsimp only; omega⟩
        dsimp only
        rw [List.take_succ_eq_append_getElem hh, List.map_append]
        simp
      · right
        obtain rfl : i = R.length := by omega
        rw [if_neg (by simp), List.take_length]
    unfold g_event_lens
    rw [key]
    rfl
  obtain ⟨pl, hpl⟩ := place_dft (ls := R.map chL) (by simpa using hR.2) (fun x hx => by
    obtain ⟨t, ht, rfl⟩ := List.mem_map.1 hx
    exact ⟨hch t ht, (h t ht).2.1⟩)
  have hfind : g_region_Find [] [] = some (⟨[], 11, 4, 0, 32, 2, true⟩, true) := rfl
  have hsp : g_event_spans sp = some true := by
    unfold g_event_spans
    rw [if_pos (by simpa using hs.1), if_pos (by simpa using hs.2.1)]
    simpa using hs.2.2
  unfold g_event_Check
  dsimp only
  rw [hfind, if_neg (by simp; omega), if_neg (by simp; omega), hsp]
  simp only [Option.bind_some, Bool.not_true, Bool.false_eq_true, if_false, if_true]
  rw [kind_1]
  simp only [Option.bind_some]
  rw [if_neg (by decide), if_pos (by decide)]
  simp only [Option.bind_some, Bool.false_eq_true, if_false]
  rw [if_neg (by simp; intro e; simp [e] at hR), List.length_map]
  simp only [Option.bind_some]
  rw [if_neg (by simp; omega), hrows]
  simp only [Option.bind_some]
  rw [hlens]
  simp only [Option.bind_some]
  rw [hpl]
  rfl
end Go.Proofs.YtalfcmgcjdkolaaGreatDoor
namespace Go.Proofs.YtalfcmgcjdkolaaGreatDoor
set_option maxRecDepth 100000
set_option maxHeartbeats 10000000
theorem less_in {a b : A_Event} (h : a.Span.In < b.Span.In) : g_event_Less a b = some true := by
  have hc : ∀ x y : Int, g_cmp_Compare_int64 x y = some (if x < y then -1 else if y < x then 1 else 0) := by
    intro x y
    unfold g_cmp_Compare_int64 g_cmp_isNaN_int64
    simp only [Option.bind_some, bne_self_eq_false, Bool.false_eq_true, if_false, decide_eq_true_eq]
    split
    · rfl
    · split <;> rfl
  unfold g_event_Less
  rw [hc, hc, if_pos h]
  simp only [Option.bind_some]
  have : g_cmp_Or_int [-1, if a.ID < b.ID then -1 else if b.ID < a.ID then 1 else 0] = some (-1) := by
    have key : iter (g_cmp_Or_int_s1 [-1, if a.ID < b.ID then -1 else if b.ID < a.ID then 1 else 0]) 0 = some (.inl (-1)) := by
      refine iter_of (fun x e => x = 0 ∧ e = .inl (-1)) (fun _ => 0) ?_ ⟨rfl, rfl⟩ (by decide)
      rintro x e ⟨rfl, rfl⟩
      right
      unfold g_cmp_Or_int_s1
      rw [if_pos (by simp)]
      rfl
    unfold g_cmp_Or_int
    rw [key]
    rfl
  rw [this]
  rfl
theorem putK_new : ∀ (ks : List Int) (n : Int), ks.contains n = false → putK ks n = ks ++ [n]
  | [], _, _ => rfl
  | a :: ks, n, h => by
    simp only [List.contains_cons, Bool.or_eq_false_iff] at h
    have ha : ¬ a = n := fun e => by simp [e] at h
    unfold putK
    rw [if_neg ha, putK_new ks n h.2, List.cons_append]
theorem doc_prog {rate : Int} {evs : List A_Event} (hr : 0 ≤ rate ∧ rate ≤ 255) (hv : rtV rate = true) (hn : evs.length ≤ 10)
    (hid : ∀ i (h : i < evs.length), evs[i].ID = (i : Int) + 1 ∧ g_event_Check evs[i] [] = some 0) (hlt : ∀ i (h : i + 1 < evs.length), evs[i].Span.In < evs[i + 1].Span.In) :
    g_document_Check ⟨[], [], rate, false, (evs.length : Int), [], evs, []⟩ = some 0 := by
  obtain ⟨e1, _, _, _⟩ := rates rate hr.1 hr.2
  have hh : g_document_header ⟨[], [], rate, false, (evs.length : Int), [], evs, []⟩ = some 0 := by
    unfold g_document_header g_document_rate
    dsimp only
    rw [prog_Valid_eq [] (by simp), gv_nil, e1, hv]
    simp only [Option.bind_some, if_true]
    rw [if_neg (by simp), if_pos (by rfl)]
    simp only [Option.bind_some, bne_self_eq_false, Bool.false_eq_true, if_false]
    rw [if_neg (by simp), if_neg (by simp; omega)]
  have hcl : g_region_CheckList [] = some 0 := by
    have key : iter (g_region_CheckList_s1 []) 0 = some (.inr ()) := iter_idx 0 (by omega) (fun _ => (.inr () : Int ⊕ Unit)) (fun i hi => by omega) (by unfold g_region_CheckList_s1; rw [if_neg (by simp)])
    unfold g_region_CheckList
    rw [if_neg (by simp), key]
    rfl
  have hcm : ∀ ev : MI Int, g_document_comments ⟨[], [], rate, false, (evs.length : Int), [], evs, []⟩ ev = some 0 := by
    intro ev
    have key : iter (g_document_comments_s1 ⟨[], [], rate, false, (evs.length : Int), [], evs, []⟩ ev) 0 = some (.inr ()) := iter_idx 0 (by omega) (fun _ => (.inr () : Int ⊕ Unit)) (fun i hi => by omega) (by unfold g_document_comments_s1; rw [if_neg (by simp)])
    unfold g_document_comments
    rw [if_neg (by simp), key]
    rfl
  have hks : ∀ i : Nat, ((List.range i).map (fun j : Nat => (j : Int) + 1)).contains ((i : Int) + 1) = false := by
    intro i
    rw [Bool.eq_false_iff]
    intro h
    rw [List.contains_iff_mem] at h
    obtain ⟨j, hj, he⟩ := List.mem_map.1 h
    rw [List.mem_range] at hj
    omega
  have key : ∃ e, iter (g_document_Check_s1 ⟨[], [], rate, false, (evs.length : Int), [], evs, []⟩) (0, ([] : List Int), ([] : List Int)) = some e ∧ ∃ q, e = .inr q := by
    refine iter_post (fun x => ∃ i : Nat, x.1 = (i : Int) ∧ i ≤ evs.length ∧ x.2.1 = (List.range i).map (fun j : Nat => (j : Int) + 1)) (fun x => evs.length - x.1.toNat) (fun (e : Int ⊕ (List Int × List Int)) => ∃ q, e = .inr q) (x := (0, [], [])) ⟨0, rfl, by omega, rfl⟩ (by show evs.length - 0 < _; omega) ?_
    rintro ⟨x, ks, vs⟩ ⟨i, hx, hi, hk⟩
    dsimp only at hx hk ⊢
    subst hx hk
    unfold g_document_Check_s1
    dsimp only
    by_cases h : i < evs.length
    · left
      obtain ⟨a1, a2⟩ := hid i h
      rw [if_pos (by simpa using h), atI_nat h]
      simp only [Option.bind_some]
      rw [a2]
      simp only [Option.bind_some, bne_self_eq_false, Bool.false_eq_true, if_false]
      rw [a1, if_neg (by simp; omega), hks i]
      simp only [Bool.false_eq_true, if_false]
      have hgo : (if decide (0 < (i : Int)) = true then ((atI evs (IntKind.i64.wrap ((i : Int) - 1))).bind fun y512 => ((g_event_Less y512 evs[i]).bind fun r514 => (if r514 = true then (some (.go ()) : Option (Nx Unit Int)) else some (.out 8)))) else some (.go ())) = some (.go ()) := by
        by_cases h0 : 0 < i
        · obtain ⟨m, rfl⟩ : ∃ m, i = m + 1 := ⟨i - 1, by omega⟩
          rw [if_pos (by rw [decide_eq_true_eq]; omega), wr64 (by omega), show (((m + 1 : Nat) : Int) - 1) = (m : Int) by omega, atI_nat (by omega)]
          simp only [Option.bind_some]
          rw [less_in (hlt m h)]
          rfl
        · rw [if_neg (by simp; omega)]
      rw [hgo]
      simp only [Option.bind_some]
      rw [wr64 (x := (i : Int) + 1) (by omega)]
      refine ⟨_, rfl, ⟨i + 1, rfl, h, ?_⟩, by dsimp only; omega⟩
      dsimp only
      rw [putK_new _ _ (hks i), List.range_succ, List.map_append]
      rfl
    · right
      rw [if_neg (by simpa using h)]
      exact ⟨_, rfl, _, rfl⟩
  obtain ⟨e, he, q, rfl⟩ := key
  unfold g_document_Check
  rw [hh]
  simp only [Option.bind_some, bne_self_eq_false, Bool.false_eq_true, if_false]
  rw [hcl]
  simp only [Option.bind_some, bne_self_eq_false, Bool.false_eq_true, if_false]
  rw [if_neg (by simp; omega), he]
  simp only [Option.bind_some]
  rw [hcm]
  rfl
theorem evR_ok {s : A_Speech} (hs : Sv s) {q : Nat × Nat} (h1 : q.1 < q.2) (h2 : q.2 ≤ s.Words.length) (ho : okE s q.1 q.2 = true) : 1 ≤ (evR s q).length ∧ ∀ t ∈ evR s q, Cln t := by
  obtain ⟨_, _, h⟩ := pq_eq hs h1 h2
  have h0 : (pq s q.1 q.2).2.2 = 0 := by simpa [okE] using ho
  obtain ⟨_, _, _, _, _, ⟨ck, G, g1, g2, g3⟩, _⟩ := h h0
  have e : evR s q = rowsT (psp s q.1 q.2) 0 G := by unfold evR; rw [g1, inl_nat]
  have htl : (psp s q.1 q.2).Tokens.length = q.2 - q.1 := tkP_len s.Words h2
  rw [e]
  refine ⟨?_, rows_cln (fun t ht => ?_) g2⟩
  · rw [rowsT_len]
    exact List.length_pos_iff.2 (rpath_last g2 (by omega)).1
  · obtain ⟨k, hk, rfl⟩ := List.getElem_of_mem ht
    have hk' : k < (tkP s.Words q.1 q.2).length := hk
    have hl := tkP_len s.Words (i := q.1) h2
    show ((tkP s.Words q.1 q.2)[k]'hk').Text ≠ [] ∧ hasSp ((tkP s.Words q.1 q.2)[k]'hk').Text = false
    rw [tkP_at s.Words h2 hk', tkA_text s.Words (by omega)]
    obtain ⟨⟨a, b, _⟩, _⟩ := ckWs_at hs.words (q.1 + k) (by omega)
    exact ⟨a, b⟩
theorem span_in {s : A_Speech} (hs : Sv s) {q : Nat × Nat} (h1 : q.1 < q.2) (h2 : q.2 ≤ s.Words.length) (ho : okE s q.1 q.2 = true) : 0 ≤ (pq s q.1 q.2).1.Span.In ∧ (pq s q.1 q.2).1.Span.In < (pq s q.1 q.2).1.Span.Out ∧ (pq s q.1 q.2).1.Span.Out ≤ 5184000 := by
  obtain ⟨_, _, h⟩ := pq_eq hs h1 h2
  obtain ⟨_, _, _, _, _, _, e⟩ := h (by simpa [okE] using ho)
  rw [e]
  dsimp only
  rw [wAt_eq (by omega), wAt_eq (by omega)]
  have a := (ckWs_at hs.words q.1 (by omega)).1
  have b := (ckWs_at hs.words (q.2 - 1) (by omega)).1
  have c := words_mono hs.words (show q.1 ≤ q.2 - 1 by omega) (by omega)
  omega
theorem seg_costs {s : A_Speech} (hs : Sv s) {C : Nat → Int} {nx : Nat → Nat} {W : List (Nat × Nat)} (hW : Way s.Words.length (okQ s) C nx 0 W) : g_segment_cost s (W.map (fun q => (pq s q.1 q.2).1)) = some (W.map (fun q => (pq s q.1 q.2).1), sumW s W, 0) := by
  have hn := hs.ok.words
  have hwl := way_len hW
  have hpa := way_pa hW
  have hok : ∀ q ∈ W, okE s q.1 q.2 = true := fun q hq => (okQ_t.1 (way_mem hW q hq)).2.2
  have hft : (W.map (fun q => (pq s q.1 q.2).1)).map (fun p => (p.From, p.To)) = inP W := by
    rw [List.map_map]
    refine List.map_congr_left fun q hq => ?_
    obtain ⟨a1, a2, a3⟩ := okQ_t.1 (way_mem hW q hq)
    have q5 := (pq_eq hs a1 a2).2.2 (by simpa [okE] using a3)
    show ((pq s q.1 q.2).1.From, (pq s q.1 q.2).1.To) = ((q.1 : Int), (q.2 : Int))
    rw [q5.1, q5.2.1]
  have hxl : (W.map (fun q => (pq s q.1 q.2).1)).length ≤ 10 := by simp; omega
  have hcs := csL_ok hok
  rcases cost_prog hs (W.map (fun q => (pq s q.1 q.2).1)) hxl with ⟨hno, _⟩ | ⟨L, hL1, hL2, hc⟩
  · exfalso
    apply hno
    have key : ∀ {a : Nat} {V : List (Nat × Nat)}, Pa s.Words.length a V → ∀ {l : List A_Part}, l.map (fun p => (p.From, p.To)) = inP V → ckCh s.Words.length a l = some (s.Words.length : Int) := by
      intro a V hV
      induction hV with
      | nil =>
        intro l hl
        have : l = [] := by simpa [inP] using hl
        subst this; rfl
      | @cons i j V' b1 b2 b3 ih =>
        intro l hl
        cases l with
        | nil => simp [inP] at hl
        | cons p l =>
          simp only [inP, List.map_cons, List.cons.injEq, Prod.mk.injEq] at hl
          rw [ckCh_cons, if_neg (by omega), hl.1.2]
          exact ih (by simpa [inP] using hl.2)
    exact key hpa hft
  · have hLW : L = W := by
      rw [hL1] at hft
      unfold inP at hft
      have inj : ∀ (A B : List (Nat × Nat)), A.map (fun q => ((q.1 : Int), (q.2 : Int))) = B.map (fun q => ((q.1 : Int), (q.2 : Int))) → A = B := by
        intro A
        induction A with
        | nil => intro B hB; cases B with | nil => rfl | cons b B => simp at hB
        | cons a A ih =>
          intro B hB
          cases B with
          | nil => simp at hB
          | cons b B =>
            simp only [List.map_cons, List.cons.injEq, Prod.mk.injEq] at hB
            rw [ih B hB.2, Prod.ext (by omega : a.1 = b.1) (by omega : a.2 = b.2)]
      exact inj _ _ hft
    rw [hc, hLW, hcs]
theorem segmentFits_true {s : A_Speech} (h : Szs s) : g_law38_SegmentFits s = some true := by
  obtain ⟨s', h1, h2⟩ := few_eq h
  unfold g_law38_SegmentFits
  rw [awake38, h1]
  simp only [Option.bind_some, if_true]
  by_cases h0 : ckSp s' = 0
  rotate_left
  · have hb : (ckSp s' != 0) = true := by simpa using h0
    have : g_segment_Segment s' = some (⟨[], 0, []⟩, ckSp s') := by simp only [g_segment_Segment, seg_Check h2, Option.bind_some, hb, if_true]
    rw [this]
    simp [h0]
  have hs := ckSp_0 h2 h0
  have hnw := h2.words
  obtain ⟨C, Pn, nx, hd⟩ := dp_ex hs
  by_cases hv : C 0 = -1
  · rw [Segment_prog hs h0 hd (W := []) (fun h => absurd hv h), if_pos hv]
    simp
  · obtain ⟨W, hW⟩ := way_exists hd s'.Words.length 0 (by omega) (by omega) hv
    rw [Segment_prog hs h0 hd (fun _ => hW), if_neg hv]
    simp only [Option.bind_some, bne_self_eq_false, Bool.false_eq_true, if_false]
    have hP := way_pa hW
    have hm := pa_mem hP
    have ho : ∀ q ∈ W, okE s' q.1 q.2 = true := fun q hq => (okQ_t.1 (way_mem hW q hq)).2.2
    have hn : W.length ≤ 10 := by have := pa_len hP; omega
    have hE : g_segment_Events s' (W.map (fun q => (pq s' q.1 q.2).1)) = some (W.zipIdx.map (evOf s'), 0) := by
      have hc := seg_costs hs hW
      simp only [g_segment_Events, seg_Check h2, h0, hc, tokens_eq h2, Option.bind_some, bne_self_eq_false, Bool.false_eq_true, if_false]
      rw [evs_prog hs hn (fun q hq => ⟨(hm q hq).2.1, (hm q hq).2.2, ho q hq⟩)]
      rfl
    rw [hE]
    simp only [Option.bind_some, beq_self_eq_true, if_true]
    have hlen : (W.zipIdx.map (evOf s')).length = W.length := by simp
    have hdoc := doc_prog (rate := s'.Rate) (evs := W.zipIdx.map (evOf s')) h2.rate hs.rate (by omega) (fun i hi => ?_) (fun i hi => ?_)
    · rw [hdoc]
      rfl
    · have hiW : i < W.length := by omega
      have hq := List.getElem_mem hiW
      obtain ⟨_, b1, b2⟩ := hm _ hq
      obtain ⟨_, c2, c3, c4, _⟩ := part_rows hs b1 b2 (ho _ hq)
      obtain ⟨d1, d2⟩ := evR_ok hs b1 b2 (ho _ hq)
      have e : (W.zipIdx.map (evOf s'))[i] = evOf s' (W[i], i) := by simp
      rw [e]
      refine ⟨rfl, event_prog (by constructor <;> (dsimp only; omega)) (span_in hs b1 b2 (ho _ hq)) ⟨d1, c3⟩ fun t ht => ⟨(c4 t ht).1, ?_, d2 t ht⟩⟩
      have := (c4 t ht).2
      have hcols := hs.house.2.2.2.2.2.2.2.1
      omega
    · have hiW : i + 1 < W.length := by omega
      have hq := List.getElem_mem (show i < W.length by omega)
      have hq' := List.getElem_mem hiW
      obtain ⟨_, b1, b2⟩ := hm _ hq
      obtain ⟨_, b1', b2'⟩ := hm _ hq'
      have e : (W.zipIdx.map (evOf s'))[i] = evOf s' (W[i], i) := by simp
      have e' : (W.zipIdx.map (evOf s'))[i + 1] = evOf s' (W[i + 1], i + 1) := by simp
      rw [e, e']
      have a := span_in hs b1 b2 (ho _ hq)
      have b := span_ok hs b1 (pa_adj hP i hiW) b1' b2' (ho _ hq) (ho _ hq')
      show (pq s' W[i].1 W[i].2).1.Span.In < (pq s' W[i + 1].1 W[i + 1].2).1.Span.In
      omega
end Go.Proofs.YtalfcmgcjdkolaaGreatDoor
namespace Go.Proofs.YtalfcmgcjdkolaaGreatDoor
open Go.ChangeShapes Go.WideShapes Go.ChangeAt Go.RowKit
set_option maxRecDepth 100000
theorem own : ownKnob Tryz.prog.godebug = none := by kernel_rfl
theorem laidOut : laidOutB Tryz.prog = true := by kernel_rfl
theorem standIn_all (ts : List TypeId) (h : ts.all (fun t => !(Tryz.prog.wantsStandIn t)) = true) (t : TypeId) (ht : t ∈ ts) : Tryz.pinned.checked.prog.wantsStandIn t = false := by
  have := List.all_eq_true.1 h t ht
  exact (show Tryz.prog.wantsStandIn t = false by simpa using this)
def putCells (cs : Array Value) : Obj → Obj
  | .cells _ t frozen => .cells cs t frozen
  | o => o
theorem u8t_of9 {W : World} (h : laidMetH Tryz.prog [("unicode/utf8.acceptRanges", Rows.laid_unicode_utf8_acceptRanges), ("unicode/utf8.first", Rows.laid_unicode_utf8_first)] W) : U8T W :=
  utf8Tabs_of_readsT (U8Types.of196 Tryz.laysValid) ⟨by kernel_rfl, by kernel_rfl, by kernel_rfl, by kernel_rfl, by kernel_rfl, by kernel_rfl, by kernel_rfl⟩ (Lib.laidMet.reads h (.tail _ (.head _))) (Lib.laidMet.reads h (.head _))
theorem cell_keep {w w' : World} {g c : Nat} {v : Value} (h : w.cell? ⟨g, c, none⟩ = some v) (hb : Below w.heap.size w w') : w'.cell? ⟨g, c, none⟩ = some v := by
  have hlt : g < w.heap.size := by
    rcases Nat.lt_or_ge g w.heap.size with h1 | h1
    · exact h1
    · simp [World.cell?, Array.getElem?_eq_none h1] at h
  rw [World.cell?_of_block (hb.block g hlt)]
  exact h
theorem stabU8T : Stab U8T := fun w w' h hb => ⟨fun c hc => cell_keep (h.1 c hc) hb, fun i hi => ⟨cell_keep (h.2 i hi).1 hb, cell_keep (h.2 i hi).2 hb⟩⟩
theorem shp_of {W : World} (h : W.ShapedOpen Tryz.prog) : Shp W :=
  cell_of_shapedOpen_int (k := .i64) (t := 3) (zero := #[.int .i64 0]) h (of_decide_eq_true (by kernel_rfl)) (by kernel_rfl) rfl (by kernel_rfl) (by kernel_rfl) Tryz.underlying3
def Env9 (w : World) : Prop := U8T w ∧ Shp w
theorem stabEnv9 : Stab Env9 := fun w w' ⟨a, b⟩ hb => ⟨stabU8T w w' a hb, stabShp w w' b hb⟩
theorem env_of9 {W : World} (h : laidMetH Tryz.prog [("unicode/utf8.acceptRanges", Rows.laid_unicode_utf8_acceptRanges), ("unicode/utf8.first", Rows.laid_unicode_utf8_first)] W) (hs : W.ShapedOpen Tryz.prog) : Env9 W := ⟨u8t_of9 h, shp_of hs⟩
noncomputable def laidWorld9 (os : Os) : World :=
  { (World.holding Tryz.prog os ⟨#[], #[], []⟩) with heap := (((World.holding Tryz.prog os ⟨#[], #[], []⟩).heap.modify 1 (putCells #[.int .u8 128, .int .u8 191, .int .u8 160, .int .u8 191, .int .u8 128, .int .u8 159, .int .u8 144, .int .u8 191, .int .u8 128, .int .u8 143, .int .u8 0, .int .u8 0, .int .u8 0, .int .u8 0, .int .u8 0, .int .u8 0, .int .u8 0, .int .u8 0, .int .u8 0, .int .u8 0, .int .u8 0, .int .u8 0, .int .u8 0, .int .u8 0, .int .u8 0, .int .u8 0, .int .u8 0, .int .u8 0, .int .u8 0, .int .u8 0, .int .u8 0, .int .u8 0])).modify 0 (putCells (Pinned.utf8FirstZ.map fun (z : Nat) => Value.int .u8 (z : Int)).toArray)) }
end Go.Proofs.YtalfcmgcjdkolaaGreatDoor
namespace Go.Proofs.YtalfcmgcjdkolaaGreatDoor
set_option maxRecDepth 100000
def A_Span.sz (x : A_Span) : Prop := (True) ∧ (True) ∧ True
def A_Word.sz (x : A_Word) : Prop := (x.Text.length ≤ 140737488351232) ∧ (A_Span.sz x.Span) ∧ True
def T_arr6_Int.sz (x : T_arr6_Int) : Prop := (True) ∧ (True) ∧ (True) ∧ (True) ∧ (True) ∧ (True)
def A_Penalties.sz (x : A_Penalties) : Prop := (T_arr6_Int.sz x.Sg) ∧ (True) ∧ (True) ∧ (True) ∧ (True) ∧ (True) ∧ (True) ∧ True
def A_Profile.sz (x : A_Profile) : Prop := (x.Name.length ≤ 140737488351232) ∧ (True) ∧ (True) ∧ (True) ∧ (True) ∧ (True) ∧ (True) ∧ (True) ∧ (True) ∧ (x.Fbd.length ≤ 140737488351232) ∧ (True) ∧ (True) ∧ (True) ∧ (True) ∧ True
def A_Speech.sz (x : A_Speech) : Prop := (True) ∧ (∀ a ∈ x.Words, A_Word.sz a) ∧ (∀ a ∈ x.Shots, True) ∧ (A_Penalties.sz x.Table) ∧ (A_Profile.sz x.House) ∧ True
theorem szs_of {s : A_Speech} (h : A_Speech.sz s) (hr : 0 ≤ s.Rate ∧ s.Rate ≤ 255) : Szs s :=
  ⟨hr, fun w hw => Nat.le_trans (h.2.1 w hw).1 (by decide), Nat.le_trans h.2.2.2.2.1.1 (by decide), Nat.le_trans h.2.2.2.2.1.2.2.2.2.2.2.2.2.2.1 (by decide)⟩
theorem speech_rate {ds : List D} {s : A_Speech} (h : ∀ d ∈ ds, Sz d) (hm : s.d ∈ ds) : 0 ≤ s.Rate ∧ s.Rate ≤ 255 :=
  Sz_u8.1 (Sz_agg.1 (h _ hm) (.int .u8 s.Rate) (by simp))
theorem law_SegmentFits (s : A_Speech) (hB : A_Speech.sz s) : AFun Tryz.prog Env9 7 [s.d] (.bool true) := by
  refine AFun.sized (by kernel_rfl) fun hz => ?_
  exact a_law38_SegmentFits stabEnv9 (fun _ h => h.2) (fun _ h => h.1) (segmentFits_true (szs_of hB (speech_rate hz (by simp))))
end Go.Proofs.YtalfcmgcjdkolaaGreatDoor
namespace Go.Proofs.YtalfcmgcjdkolaaGreatDoor
open Go.ChangeShapes Go.WideShapes Go.ChangeAt Go.RowKit Go.Joins
set_option maxRecDepth 100000
def FA (w : World) : Nat → Nat → Prop := fun b _ => b < w.heap.size
theorem FA_fb (w : World) : FB (cF (FA w)) w := fun _ _ h => h
theorem wf_inR {k : IntKind} {n : Int} (h : (Lit.int k n).wf = true) : inR k n := by
  simp only [Lit.wf, Bool.and_eq_true, decide_eq_true_eq] at h
  cases k <;> simp [IntKind.min, IntKind.max, IntKind.signed, IntKind.bits] at h <;> simp [inR, kLo, kHi] <;> omega
theorem strOfBytes (s : ByteArray) : (⟨s.data.toList.toArray⟩ : ByteArray) = s := by cases s; simp
theorem AFun.law {P : Program} {I : World → Prop} {f : FuncId} {ds : List D} (h : AFun P I f ds (.bool true)) {W : World} {args : List Value} (hI : I W) (hl : args.length = ds.length) (hr : ∀ (i : Nat) v d, args[i]? = some v → ds[i]? = some d → Rep W (cF (FA W)) v d) :
    Calls P f args.toArray W fun e w' => e = .returned (.bool true) ∧ Below W.heap.size W w' := by
  refine (h.2 W (FA W) args hI (FA_fb W) hl hr).mono ?_
  rintro e w' ⟨v, F', rfl, hb, _, _, _, hrep⟩
  cases hrep
  exact ⟨rfl, hb⟩
section
variable (H : Type) (enc : TypeId × Value → H) (P : Program)
def OpT {α : Type} (t : TypeId) (δ : α → D) : Prop :=
  ∀ (w : World) (fuel : Nat) (cs : List Value) (x : DataW H × List MemPlace), DataW.trod enc P w 0 (fun _ => true) true fuel t cs = some x → ∃ a : α, RepL (cF (FA w)) w cs (δ a).cells
def OpF {α : Type} (fs : List Field) (off : Nat) (γ : α → List D) : Prop :=
  ∀ (w : World) (fuel : Nat) (cs : List Value), off ≤ cs.length → (∀ f ∈ fs, ∃ x, DataW.trod enc P w 0 (fun _ => true) true fuel f.type ((cs.drop f.offset).take (P.cellsOf f.type)) = some x) → (fs = [] → cs.length = off) → (∀ f ∈ fs, f.offset + P.cellsOf f.type ≤ cs.length) → ((fs.map fun f => P.cellsOf f.type).sum + off = cs.length) → ∃ a : α, RepL (cF (FA w)) w (cs.drop off) (γ a)
end
section
variable {H : Type} {enc : TypeId × Value → H} {P : Program}
theorem OpT.int {t : TypeId} {k : IntKind} (ht : P.underlying t = some (.int k)) : OpT H enc P t (D.int k) := by
  intro w fuel cs x h
  obtain ⟨n, rfl, _, hw⟩ := DataW.trod_int ht h
  exact ⟨n, RepL.one1 rfl (.int _ _ (wf_inR hw))⟩
theorem OpT.bool {t : TypeId} (ht : P.underlying t = some .bool) : OpT H enc P t D.bool := by
  intro w fuel cs x h
  obtain ⟨n, rfl, _⟩ := DataW.trod_bool ht h
  exact ⟨n, RepL.one1 rfl (.bool _)⟩
theorem rep_strB {w : World} {C : Cx} (s : ByteArray) (h : s.size ≤ maxLen) : Rep w C (.string s) (.str s.data.toList) := by
  have := Rep.str (w := w) (C := C) s.data.toList (by rw [Array.length_toList]; exact h)
  rwa [strOfBytes] at this
theorem OpT.str {t : TypeId} (ht : P.underlying t = some .string) : OpT H enc P t D.str := by
  intro w fuel cs x h
  obtain ⟨s, rfl, _, hs⟩ := DataW.trod_string ht h
  exact ⟨s.data.toList, RepL.one1 rfl (rep_strB s hs)⟩
theorem OpT.map {α β : Type} {t : TypeId} {δ : α → D} {ε : β → D} (h : OpT H enc P t δ) (φ : α → β) (hφ : ∀ a, ε (φ a) = δ a) : OpT H enc P t ε := by
  intro w fuel cs x hx
  obtain ⟨a, ha⟩ := h w fuel cs x hx
  exact ⟨φ a, by rw [hφ]; exact ha⟩
theorem OpF.nil {off : Nat} : OpF H enc P [] off (fun _ : Unit => []) := by
  intro w fuel cs h1 h2 h3 h4 h5
  refine ⟨(), ?_⟩
  rw [List.drop_eq_nil_of_le (by have := h3 rfl; omega)]
  exact RepL.nil
theorem OpF.cons {α β : Type} {f : Field} {fs : List Field} {off : Nat} {δ : α → D} {γ : β → List D} (ho : f.offset = off) (h : OpT H enc P f.type δ) (hr : OpF H enc P fs (off + P.cellsOf f.type) γ) : OpF H enc P (f :: fs) off (fun p : α × β => (δ p.1).cells ++ γ p.2) := by
  intro w fuel cs h1 h2 h3 h4 h5
  subst ho
  obtain ⟨x, hx⟩ := h2 f (by simp)
  obtain ⟨a, ha⟩ := h w fuel _ x hx
  have hlen : f.offset + P.cellsOf f.type ≤ cs.length := h4 f (by simp)
  simp only [List.map_cons, List.sum_cons] at h5
  obtain ⟨b, hb⟩ := hr w fuel cs hlen (fun g hg => h2 g (by simp [hg])) (fun e => by subst e; simp at h5; omega) (fun g hg => h4 g (by simp [hg])) (by omega)
  refine ⟨(a, b), ?_⟩
  have := ha.append hb
  rw [show (cs.drop f.offset).take (P.cellsOf f.type) ++ cs.drop (f.offset + P.cellsOf f.type) = cs.drop f.offset by rw [← List.drop_drop]; exact List.take_append_drop _ _] at this
  exact this
theorem OpT.struct {α β : Type} {t : TypeId} {fs : Array Field} {γ : α → List D} {ε : β → D} (ht : P.underlying t = some (.struct fs)) (hoff : (fs.toList.all fun f => decide (f.offset + P.cellsOf f.type ≤ P.cellsOf t)) = true) (hsum : (fs.toList.map fun f => P.cellsOf f.type).sum = P.cellsOf t) (h : OpF H enc P fs.toList 0 γ) (φ : α → β) (hφ : ∀ a, (ε (φ a)).cells = γ a) : OpT H enc P t ε := by
  intro w fuel cs x hx
  obtain ⟨xs, n, _, _, hl, hxl, hf⟩ := DataW.trod_struct ht hx
  obtain ⟨a, ha⟩ := h w n cs (Nat.zero_le _) (fun f hf' => by
    obtain ⟨i, hi, rfl⟩ := List.getElem_of_mem hf'
    have hi' : fs[i]? = some fs.toList[i] := by simp at hi ⊢
    have := hf i _ hi'
    rw [List.getElem?_eq_getElem (by rw [hxl]; simpa using hi)] at this
    exact ⟨_, this⟩) (fun e => by rw [e] at hsum; simp at hsum; omega) (fun f hf' => by have := List.all_eq_true.1 hoff f hf'; simp at this; omega) (by omega)
  refine ⟨φ a, ?_⟩
  rw [hφ]
  simpa using ha
theorem addr_addO (b o i : Nat) : (⟨b, o, none⟩ : Addr).add i = ⟨b, o + i, none⟩ := by
  unfold Addr.add
  split
  · rename_i e; subst e; rfl
  · rfl
theorem rows_of {w : World} {b off k : Nat} {α : Type} {δ : α → D} (hk : ∀ a, (δ a).cells.length = k) : ∀ (n : Nat) (s : Nat), (∀ i, i < n → ∃ cs', (∀ j, j < k → w.cell? ⟨b, off + (s + i) * k + j, none⟩ = cs'[j]?) ∧ cs'.length = k ∧ ∃ a : α, RepL (cF (FA w)) w cs' (δ a).cells) →
    ∃ (l : List α) (vals : List Value), l.length = n ∧ vals.length = n * k ∧ RepL (cF (FA w)) w vals ((l.map δ).flatMap D.cells) ∧ ∀ (i : Nat) v, vals[i]? = some v → w.cell? ⟨b, off + s * k + i, none⟩ = some v := by
  intro n
  induction n with
  | zero => intro s _; exact ⟨[], [], rfl, by simp, RepL.nil, by simp⟩
  | succ n ih =>
    intro s h
    obtain ⟨cs, hc, hcl, a, ha⟩ := h 0 (by omega)
    obtain ⟨l, vals, h1, h2, h3, h4⟩ := ih (s + 1) (fun i hi => by
      obtain ⟨cs', hh⟩ := h (i + 1) (by omega)
      refine ⟨cs', ?_⟩
      rw [show s + 1 + i = s + (i + 1) by omega]
      exact hh)
    refine ⟨a :: l, cs ++ vals, by simp [h1], by rw [List.length_append, hcl, h2, Nat.add_mul]; omega, ?_, ?_⟩
    · simp only [List.map_cons, List.flatMap_cons]
      exact ha.append h3
    · intro i v hv
      by_cases hi : i < k
      · rw [List.getElem?_append_left (by omega)] at hv
        have := hc i hi
        rw [Nat.add_zero] at this
        rw [this, hv]
      · rw [List.getElem?_append_right (by omega)] at hv
        have := h4 _ v hv
        rw [hcl] at this
        rw [← this]
        congr 2
        rw [Nat.add_mul]
        omega
theorem OpT.slice {α : Type} {t e : TypeId} {δ : α → D} (ht : P.underlying t = some (.slice e)) (hpos : 0 < P.cellsOf e) (hk : ∀ a, (δ a).cells.length = P.cellsOf e) (h : OpT H enc P e δ) : OpT H enc P t (fun l : List α => D.sl (l.map δ)) := by
  intro w fuel cs x hx
  rcases Deep.open_slice ht hx with ⟨rfl, _⟩ | ⟨a, len, cap, m, n, Dd, Pl, rfl, hb, hl, hm, hmm, _, hel⟩
  · exact ⟨[], RepL.one1 rfl (.sl0 _ _ (Nat.zero_le _))⟩
  · simp only [if_true] at hmm
    subst hmm
    by_cases h0 : len = 0
    · subst h0
      exact ⟨[], RepL.one1 rfl (.sl0 _ _ hm)⟩
    · obtain ⟨b, off, spot⟩ := a
      obtain ⟨c0, hc0, _⟩ := hel 0 (by omega)
      obtain ⟨_, hl0, hg0⟩ := World.cells?_some hc0
      have hcell0 := hg0 0 hpos
      have hx0 : c0[0]? = some (c0[0]'(by omega)) := List.getElem?_eq_getElem _
      rw [hx0] at hcell0
      have hspot : spot = none := by simpa [Addr.add] using World.cell?_spot hcell0
      subst hspot
      have hbl : b < w.heap.size := by
        rcases Nat.lt_or_ge b w.heap.size with h1 | h1
        · exact h1
        · simp [Addr.add, World.cell?, Array.getElem?_eq_none h1] at hcell0
      obtain ⟨l, vals, h1, h2, h3, h4⟩ := rows_of (w := w) (b := b) (off := off) (k := P.cellsOf e) hk len 0 (fun i hi => by
        obtain ⟨cs', hc', ht'⟩ := hel i (by omega)
        obtain ⟨_, hl', hg'⟩ := World.cells?_some hc'
        refine ⟨cs', fun j hj => ?_, hl', h w n cs' _ ht'⟩
        have := hg' j hj
        rw [addr_addO, addr_addO] at this
        rw [← this]
        simp)
      refine ⟨l, RepL.one1 rfl ?_⟩
      have hkk : ∀ x ∈ l.map δ, x.cells.length = P.cellsOf e := fun x hx => by obtain ⟨y, _, rfl⟩ := List.mem_map.1 hx; exact hk y
      have := Rep.sl (w := w) (C := cF (FA w)) b off (P.cellsOf e) m (l.map δ) vals (by simp [h1]; omega) hm hkk h3.len h3.one (fun _ _ => hbl) (fun i v hv => by have := h4 i v hv; simpa using this) (fun i v d hv hd => h3.rep i v d hv hd)
      rw [List.length_map, h1] at this
      exact this
theorem arr_rows {α : Type} {e : TypeId} {δ : α → D} (h : OpT H enc P e δ) (w : World) (fuel : Nat) (cs : List Value) (k : Nat) : ∀ (n s : Nat), (∀ i, s ≤ i → i < s + n → ∃ x, DataW.trod enc P w 0 (fun _ => true) true fuel e ((cs.drop (i * k)).take k) = some x) → cs.length = (s + n) * k →
    ∃ l : List α, l.length = n ∧ RepL (cF (FA w)) w (cs.drop (s * k)) (l.flatMap fun a => (δ a).cells) := by
  intro n
  induction n with
  | zero => intro s _ hl; exact ⟨[], rfl, by rw [List.drop_eq_nil_of_le (by rw [hl]; exact Nat.le_refl _)]; exact RepL.nil⟩
  | succ n ih =>
    intro s hx hl
    obtain ⟨x, hx0⟩ := hx s (by omega) (by omega)
    obtain ⟨a, ha⟩ := h w fuel _ x hx0
    obtain ⟨l, hll, hr⟩ := ih (s + 1) (fun i h1 h2 => hx i (by omega) (by omega)) (by rw [hl]; congr 1; omega)
    refine ⟨a :: l, by simp [hll], ?_⟩
    have := ha.append hr
    rw [show (cs.drop (s * k)).take k ++ cs.drop ((s + 1) * k) = cs.drop (s * k) by rw [show (s + 1) * k = s * k + k by rw [Nat.add_mul]; omega, ← List.drop_drop]; exact List.take_append_drop _ _] at this
    exact this
theorem OpT.array {α β : Type} {t e : TypeId} {n : Nat} {δ : α → D} {ε : β → D} (ht : P.underlying t = some (.array n e)) (hc : P.cellsOf t = n * P.cellsOf e) (h : OpT H enc P e δ) (φ : (l : List α) → l.length = n → β) (hφ : ∀ l h, (ε (φ l h)).cells = l.flatMap fun a => (δ a).cells) : OpT H enc P t ε := by
  intro w fuel cs x hx
  obtain ⟨xs, m, _, _, hl, hxl, hf⟩ := DataW.trod_array ht hx
  obtain ⟨l, hll, hr⟩ := arr_rows h w m cs (P.cellsOf e) n 0 (fun i _ hi => by
    have := hf i (by omega)
    rw [List.getElem?_eq_getElem (by omega)] at this
    exact ⟨_, this⟩) (by rw [hl, hc, Nat.zero_add])
  refine ⟨φ l hll, ?_⟩
  rw [hφ]
  simpa using hr
theorem OpT.argS {α : Type} {t : TypeId} {δ : α → D} {cs : Array Value} (h : OpT H enc P t δ) {w : World} {d : DataW H} {p : List MemPlace} (hδ : ∀ a, ∃ ds, δ a = .agg ds) (ht : DataW.Trod enc P w 0 (fun _ => true) true t (.agg cs) d p) : ∃ a, Rep w (cF (FA w)) (.agg cs) (δ a) := by
  obtain ⟨fuel, hf⟩ := ht
  obtain ⟨a, ha⟩ := h w fuel _ _ hf
  refine ⟨a, ?_⟩
  obtain ⟨ds, hd⟩ := hδ a
  rw [hd] at ha ⊢
  have := ha.agg
  simpa [Value.cells, D.cells] using this
theorem OpT.argStruct {α : Type} {t : TypeId} {fs : Array Field} {δ : α → D} (ht : P.underlying t = some (.struct fs)) (h : OpT H enc P t δ) (hδ : ∀ a, ∃ ds, δ a = .agg ds) {w : World} {r : Reach} {b0 : Nat} {v : Value} {d : DataW H} {p : List MemPlace} (hv : Value.okWide P w r b0 t v) (hd : DataW.Trod enc P w 0 (fun _ => true) true t v d p) : ∃ a, Rep w (cF (FA w)) v (δ a) := by
  obtain ⟨_, rfl, _⟩ := okWide_struct ht hv
  exact h.argS hδ hd
end
end Go.Proofs.YtalfcmgcjdkolaaGreatDoor
namespace Go.Proofs.YtalfcmgcjdkolaaGreatDoor
open Go.ChangeShapes Go.WideShapes Go.ChangeAt Go.RowKit Go.Joins
set_option maxRecDepth 100000
theorem wt_each {H : Type} {P : Program} : ∀ {ts : List TypeId} {ds : List (DataW H)} {i : Nat} {t : TypeId} {d : DataW H}, ts[i]? = some t → ds[i]? = some d → ∀ m ∈ d.weights P t, m ∈ DataW.weightsEach P ts ds
  | [], _, i, t, d, h, _ => by simp at h
  | _ :: _, [], i, t, d, _, h => by simp at h
  | a :: ts, b :: ds, i, t, d, h1, h2 => by
    intro m hm
    unfold DataW.weightsEach
    rw [List.mem_append]
    cases i with
    | zero =>
      simp at h1 h2
      subst h1 h2
      exact .inl hm
    | succ i => exact .inr (wt_each (i := i) (by simpa using h1) (by simpa using h2) m hm)
theorem wt_all {H : Type} {P : Program} {e : TypeId} : ∀ {ds : List (DataW H)} {d : DataW H}, d ∈ ds → ∀ m ∈ d.weights P e, m ∈ DataW.weightsAll P e ds
  | a :: ds, d, h => by
    intro m hm
    unfold DataW.weightsAll
    rw [List.mem_append]
    rcases List.mem_cons.1 h with rfl | h
    · exact .inl hm
    · exact .inr (wt_all h m hm)
section
variable (H : Type) (enc : TypeId × Value → H) (P : Program) (n : Nat)
def OpTW {α : Type} (t : TypeId) (δ : α → D) (B : α → Prop) : Prop :=
  ∀ (w : World) (fuel : Nat) (cs : List Value) (x : DataW H × List MemPlace), DataW.trod enc P w 0 (fun _ => true) true fuel t cs = some x → (∀ m ∈ x.1.weights P t, m ≤ n) → ∃ a : α, RepL (cF (FA w)) w cs (δ a).cells ∧ B a
def OpFW {α : Type} (fs : List Field) (off : Nat) (γ : α → List D) (B : α → Prop) : Prop :=
  ∀ (w : World) (fuel : Nat) (cs : List Value), off ≤ cs.length → (∀ f ∈ fs, ∃ x : DataW H × List MemPlace, DataW.trod enc P w 0 (fun _ => true) true fuel f.type ((cs.drop f.offset).take (P.cellsOf f.type)) = some x ∧ ∀ m ∈ x.1.weights P f.type, m ≤ n) → (fs = [] → cs.length = off) → (∀ f ∈ fs, f.offset + P.cellsOf f.type ≤ cs.length) → ((fs.map fun f => P.cellsOf f.type).sum + off = cs.length) → ∃ a : α, RepL (cF (FA w)) w (cs.drop off) (γ a) ∧ B a
end
section
variable {H : Type} {enc : TypeId × Value → H} {P : Program} {n : Nat}
theorem OpTW.int {t : TypeId} {k : IntKind} (ht : P.underlying t = some (.int k)) : OpTW H enc P n t (D.int k) (fun _ => True) := by
  intro w fuel cs x h _
  obtain ⟨a, ha⟩ := OpT.int ht w fuel cs x h
  exact ⟨a, ha, trivial⟩
theorem OpTW.bool {t : TypeId} (ht : P.underlying t = some .bool) : OpTW H enc P n t D.bool (fun _ => True) := by
  intro w fuel cs x h _
  obtain ⟨a, ha⟩ := OpT.bool ht w fuel cs x h
  exact ⟨a, ha, trivial⟩
theorem OpTW.str {t : TypeId} (ht : P.underlying t = some .string) : OpTW H enc P n t D.str (fun s => s.length ≤ n) := by
  intro w fuel cs x h hn
  obtain ⟨s, rfl, rfl, hs⟩ := DataW.trod_string ht h
  refine ⟨s.data.toList, RepL.one1 rfl (rep_strB s hs), ?_⟩
  exact hn _ (by simp [DataW.weights])
theorem OpFW.nil {off : Nat} : OpFW H enc P n [] off (fun _ : Unit => []) (fun _ => True) := by
  intro w fuel cs h1 h2 h3 h4 h5
  refine ⟨(), ?_, trivial⟩
  rw [List.drop_eq_nil_of_le (by have := h3 rfl; omega)]
  exact RepL.nil
theorem OpFW.cons {α β : Type} {f : Field} {fs : List Field} {off : Nat} {δ : α → D} {γ : β → List D} {A : α → Prop} {B : β → Prop} (ho : f.offset = off) (h : OpTW H enc P n f.type δ A) (hr : OpFW H enc P n fs (off + P.cellsOf f.type) γ B) : OpFW H enc P n (f :: fs) off (fun p : α × β => (δ p.1).cells ++ γ p.2) (fun p => A p.1 ∧ B p.2) := by
  intro w fuel cs h1 h2 h3 h4 h5
  subst ho
  obtain ⟨x, hx, hxn⟩ := h2 f (by simp)
  obtain ⟨a, ha, hA⟩ := h w fuel _ x hx hxn
  have hlen : f.offset + P.cellsOf f.type ≤ cs.length := h4 f (by simp)
  simp only [List.map_cons, List.sum_cons] at h5
  obtain ⟨b, hb, hB⟩ := hr w fuel cs hlen (fun g hg => h2 g (by simp [hg])) (fun e => by subst e; simp at h5; omega) (fun g hg => h4 g (by simp [hg])) (by omega)
  refine ⟨(a, b), ?_, hA, hB⟩
  have := ha.append hb
  rw [show (cs.drop f.offset).take (P.cellsOf f.type) ++ cs.drop (f.offset + P.cellsOf f.type) = cs.drop f.offset by rw [← List.drop_drop]; exact List.take_append_drop _ _] at this
  exact this
theorem OpTW.struct {α β : Type} {t : TypeId} {fs : Array Field} {γ : α → List D} {ε : β → D} {A : α → Prop} {B : β → Prop} (ht : P.underlying t = some (.struct fs)) (hoff : (fs.toList.all fun f => decide (f.offset + P.cellsOf f.type ≤ P.cellsOf t)) = true) (hsum : (fs.toList.map fun f => P.cellsOf f.type).sum = P.cellsOf t) (h : OpFW H enc P n fs.toList 0 γ A) (φ : α → β) (hφ : ∀ a, (ε (φ a)).cells = γ a) (hB : ∀ a, A a → B (φ a)) : OpTW H enc P n t ε B := by
  intro w fuel cs x hx hn
  obtain ⟨xs, m, _, rfl, hl, hxl, hf⟩ := DataW.trod_struct ht hx
  obtain ⟨a, ha, hA⟩ := h w m cs (Nat.zero_le _) (fun f hf' => by
    obtain ⟨i, hi, rfl⟩ := List.getElem_of_mem hf'
    have hi' : fs[i]? = some fs.toList[i] := by simp at hi ⊢
    have := hf i _ hi'
    have hix : i < xs.length := by rw [hxl]; simpa using hi
    rw [List.getElem?_eq_getElem hix] at this
    refine ⟨_, this, fun k hk => hn k ?_⟩
    unfold DataW.weights
    rw [ht]
    exact wt_each (i := i) (by rw [List.getElem?_map, List.getElem?_eq_getElem hi]; rfl) (by rw [List.getElem?_map, List.getElem?_eq_getElem hix]; rfl) k hk) (fun e => by rw [e] at hsum; simp at hsum; omega) (fun f hf' => by have := List.all_eq_true.1 hoff f hf'; simp at this; omega) (by omega)
  refine ⟨φ a, ?_, hB a hA⟩
  rw [hφ]
  simpa using ha
theorem OpTW.slice {α : Type} {t e : TypeId} {δ : α → D} {A : α → Prop} (ht : P.underlying t = some (.slice e)) (hpos : 0 < P.cellsOf e) (hk : ∀ a, (δ a).cells.length = P.cellsOf e) (h : OpTW H enc P n e δ A) : OpTW H enc P n t (fun l : List α => D.sl (l.map δ)) (fun l => ∀ a ∈ l, A a) := by
  intro w fuel cs x hx hn
  rcases Deep.open_slice ht hx with ⟨rfl, _⟩ | ⟨a, len, cap, m, f, Dd, Pl, rfl, hb, hl, hm, hmm, rfl, hel⟩
  · exact ⟨[], RepL.one1 rfl (.sl0 _ _ (Nat.zero_le _)), by simp⟩
  · simp only [if_true] at hmm
    subst hmm
    by_cases h0 : len = 0
    · subst h0
      exact ⟨[], RepL.one1 rfl (.sl0 _ _ hm), by simp⟩
    · obtain ⟨b, off, spot⟩ := a
      obtain ⟨c0, hc0, _⟩ := hel 0 (by omega)
      obtain ⟨_, hl0, hg0⟩ := World.cells?_some hc0
      have hcell0 := hg0 0 hpos
      have hx0 : c0[0]? = some (c0[0]'(by omega)) := List.getElem?_eq_getElem _
      rw [hx0] at hcell0
      have hspot : spot = none := by simpa [Addr.add] using World.cell?_spot hcell0
      subst hspot
      have hbl : b < w.heap.size := by
        rcases Nat.lt_or_ge b w.heap.size with h1 | h1
        · exact h1
        · simp [Addr.add, World.cell?, Array.getElem?_eq_none h1] at hcell0
      unfold DataW.weights at hn
      rw [ht] at hn
      obtain ⟨l, vals, h1, h2, h3, h4⟩ := rows_of (w := w) (b := b) (off := off) (k := P.cellsOf e) (α := { a : α // A a }) (δ := fun a => δ a.1) (fun a => hk a.1) len 0 (fun i hi => by
        obtain ⟨cs', hc', ht'⟩ := hel i (by omega)
        obtain ⟨_, hl', hg'⟩ := World.cells?_some hc'
        refine ⟨cs', fun j hj => ?_, hl', ?_⟩
        · have := hg' j hj
          rw [addr_addO, addr_addO] at this
          rw [← this]
          simp
        · have hmem : Dd i ∈ (List.range len).map Dd := List.mem_map_of_mem (List.mem_range.2 hi)
          obtain ⟨a, ha, hA⟩ := h w f cs' _ ht' (fun k hk => hn k (List.mem_cons_of_mem _ (List.mem_append_left _ (wt_all hmem k hk))))
          exact ⟨⟨a, hA⟩, ha⟩)
      have hmap : l.map (fun a => δ a.1) = (l.map (·.1)).map δ := by rw [List.map_map]; rfl
      rw [hmap] at h3
      refine ⟨l.map (·.1), RepL.one1 rfl ?_, fun a ha => ?_⟩
      · have hkk : ∀ x ∈ (l.map (·.1)).map δ, x.cells.length = P.cellsOf e := fun x hx => by obtain ⟨y, _, rfl⟩ := List.mem_map.1 hx; exact hk y
        have := Rep.sl (w := w) (C := cF (FA w)) b off (P.cellsOf e) m ((l.map (·.1)).map δ) vals (by simp [h1]; omega) hm hkk h3.len h3.one (fun _ _ => hbl) (fun i v hv => by have := h4 i v hv; simpa using this) (fun i v d hv hd => h3.rep i v d hv hd)
        rw [List.length_map, List.length_map, h1] at this
        exact this
      · obtain ⟨y, _, rfl⟩ := List.mem_map.1 ha
        exact y.2
theorem arr_rowsW {α : Type} {e : TypeId} {δ : α → D} {A : α → Prop} (h : OpTW H enc P n e δ A) (w : World) (fuel : Nat) (cs : List Value) (k : Nat) : ∀ (m s : Nat), (∀ i, s ≤ i → i < s + m → ∃ x : DataW H × List MemPlace, DataW.trod enc P w 0 (fun _ => true) true fuel e ((cs.drop (i * k)).take k) = some x ∧ ∀ m ∈ x.1.weights P e, m ≤ n) → cs.length = (s + m) * k →
    ∃ l : List α, l.length = m ∧ RepL (cF (FA w)) w (cs.drop (s * k)) (l.flatMap fun a => (δ a).cells) ∧ ∀ a ∈ l, A a := by
  intro m
  induction m with
  | zero => intro s _ hl; exact ⟨[], rfl, by rw [List.drop_eq_nil_of_le (by rw [hl]; exact Nat.le_refl _)]; exact RepL.nil, by simp⟩
  | succ m ih =>
    intro s hx hl
    obtain ⟨x, hx0, hxn⟩ := hx s (by omega) (by omega)
    obtain ⟨a, ha, hA⟩ := h w fuel _ x hx0 hxn
    obtain ⟨l, hll, hr, hAl⟩ := ih (s + 1) (fun i h1 h2 => hx i (by omega) (by omega)) (by rw [hl]; congr 1; omega)
    refine ⟨a :: l, by simp [hll], ?_, fun b hb => by
      rcases List.mem_cons.1 hb with rfl | hb
      · exact hA
      · exact hAl b hb⟩
    have := ha.append hr
    rw [show (cs.drop (s * k)).take k ++ cs.drop ((s + 1) * k) = cs.drop (s * k) by rw [show (s + 1) * k = s * k + k by rw [Nat.add_mul]; omega, ← List.drop_drop]; exact List.take_append_drop _ _] at this
    exact this
theorem OpTW.array {α β : Type} {t e : TypeId} {m : Nat} {δ : α → D} {ε : β → D} {A : α → Prop} {B : β → Prop} (ht : P.underlying t = some (.array m e)) (hc : P.cellsOf t = m * P.cellsOf e) (h : OpTW H enc P n e δ A) (φ : (l : List α) → l.length = m → β) (hφ : ∀ l h, (ε (φ l h)).cells = l.flatMap fun a => (δ a).cells) (hB : ∀ l h, (∀ a ∈ l, A a) → B (φ l h)) : OpTW H enc P n t ε B := by
  intro w fuel cs x hx hn
  obtain ⟨xs, k, _, rfl, hl, hxl, hf⟩ := DataW.trod_array ht hx
  obtain ⟨l, hll, hr, hA⟩ := arr_rowsW h w k cs (P.cellsOf e) m 0 (fun i _ hi => by
    have := hf i (by omega)
    rw [List.getElem?_eq_getElem (by omega)] at this
    refine ⟨_, this, fun k hk => hn k ?_⟩
    unfold DataW.weights
    rw [ht]
    exact wt_all (List.mem_map_of_mem (f := (·.1)) (List.getElem_mem (l := xs) (n := i) (by omega))) k hk) (by rw [hl, hc, Nat.zero_add])
  refine ⟨φ l hll, ?_, hB l hll hA⟩
  rw [hφ]
  simpa using hr
theorem OpTW.argStruct {α : Type} {t : TypeId} {fs : Array Field} {δ : α → D} {B : α → Prop} (ht : P.underlying t = some (.struct fs)) (h : OpTW H enc P n t δ B) (hδ : ∀ a, ∃ ds, δ a = .agg ds) {w : World} {r : Reach} {b0 : Nat} {v : Value} {d : DataW H} {p : List MemPlace} (hv : Value.okWide P w r b0 t v) (hd : DataW.Trod enc P w 0 (fun _ => true) true t v d p) (hn : ∀ m ∈ d.weights P t, m ≤ n) : ∃ a, Rep w (cF (FA w)) v (δ a) ∧ B a := by
  obtain ⟨cs, rfl, _⟩ := okWide_struct ht hv
  obtain ⟨fuel, hf⟩ := hd
  obtain ⟨a, ha, hB⟩ := h w fuel _ _ hf hn
  refine ⟨a, ?_, hB⟩
  obtain ⟨ds, hd⟩ := hδ a
  rw [hd] at ha ⊢
  have := ha.agg
  simpa [Value.cells, D.cells] using this
end
end Go.Proofs.YtalfcmgcjdkolaaGreatDoor
