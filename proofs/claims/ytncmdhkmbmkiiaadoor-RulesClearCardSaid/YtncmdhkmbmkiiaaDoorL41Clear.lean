/- The walk of captionerlaw41.RulesClear: it answers true, and changes nothing that was there. The table of powers of ten is as the program lays it. -/
import Derived.Test.YtncmdhkmbmkiiaaDoorL41Shots
namespace Go.Proofs.YtncmdhkmbmkiiaaDoor
open Go.RowKit

theorem snSt_free (l : List Int) (f b a : Int) (P : List Int) : ∀ k, k ≤ P.length → (snSt l f b a P k).2 = true → (tcL (snSt l f b a P k).1 b a l).2 = false := by
  intro k
  induction k with
  | zero => intro _ h; simp [snSt] at h
  | succ k ih =>
    intro hk h
    rw [snSt_succ l f b a P k (by omega)] at h ⊢
    have ih := ih (by omega)
    generalize snSt l f b a P k = st at h ih ⊢
    unfold snStep at h ⊢
    by_cases h1 : frB P[k] = true
    · rw [if_pos h1] at h ⊢
      by_cases h2 : (tcL P[k] b a l).2 = true
      · rw [if_pos h2] at h ⊢; exact ih h
      · rw [if_neg h2] at h ⊢
        by_cases h3 : (!st.2 || nearer f st.1 P[k]) = true
        · rw [if_pos h3]; simpa using h2
        · rw [if_neg h3] at h ⊢; exact ih h
    · rw [if_neg h1] at h ⊢; exact ih h
theorem snL_free (l : List Int) (f b a : Int) (h : (snL l f b a).2 = true) : (tcL (snL l f b a).1 b a l).2 = false := by
  unfold snL at h ⊢
  by_cases h1 : suB l f b a = true
  · rw [if_pos h1] at h ⊢
    have := snSt_free l f b a (snPlaces l f b a) _ (Nat.le_refl _)
    rw [snSt, List.take_length] at this
    exact this h
  · rw [if_neg h1] at h; simp at h
/-- The frame that Snap finds is not the frame itself, if that is too close. -/
theorem snL_ne (l : List Int) (f b a : Int) (h : (clL l f b a).2 = true) (h' : (snL l f b a).2 = true) : (snL l f b a).1 ≠ f := by
  intro e
  have h1 := snL_free l f b a h'
  rw [e] at h1
  unfold clL at h
  split at h
  · rw [h1] at h; cases h
  · cases h

/-- The amount of a finding of a boundary. -/
def amt (l : List Int) (f b a : Int) : Int := if (snL l f b a).2 then absI ((snL l f b a).1 - f) else 1
theorem amt_pos (l : List Int) (f b a : Int) (h : (clL l f b a).2 = true) : 1 ≤ amt l f b a := by
  unfold amt
  split
  · rename_i h'
    have := snL_ne l f b a h h'
    unfold absI
    omega
  · omega
theorem amt_is (l : List Int) (f b a : Int) (h : (snL l f b a).2 = true) : (snL l f b a).1 = f - amt l f b a ∨ (snL l f b a).1 = f + amt l f b a := by
  unfold amt
  rw [if_pos h]
  unfold absI
  omega
theorem amt_le (l : List Int) (f b a : Int) (hf0 : 0 ≤ f) (hf1 : f ≤ 5184000) : amt l f b a ≤ 5184000 := by
  have := snL_ok l f b a
  unfold amt absI
  split <;> omega
theorem shotOne_amt {l : List Int} {id f b a : Int} (h : (clL l f b a).2 = true) : shotOne l id f b a = [⟨6, id, (clL l f b a).1, amt l f b a⟩] := by simp [shotOne, h, amt]

/-- The findings come in the order of the boundaries. -/
theorem shTo_at (l : List Int) (id i o b a : Int) (k : Nat) (hk : k < 2) (h : (clL l ([i, o].getD k 0) b a).2 = true) : (shTo l id i o b a 2)[(shTo l id i o b a k).length]? = some ⟨6, id, (clL l ([i, o].getD k 0) b a).1, amt l ([i, o].getD k 0) b a⟩ := by
  have h1 := shTo_succ l id i o b a k hk
  rw [shotOne_amt h] at h1
  match k, hk with
  | 0, _ =>
    have h2 := shTo_succ l id i o b a 1 (by omega)
    rw [h2, h1, List.append_assoc, List.getElem?_append_right (Nat.le_refl _)]
    simp
  | 1, _ =>
    rw [show (2 : Nat) = 1 + 1 from rfl, h1, List.getElem?_append_right (Nat.le_refl _)]
    simp

theorem cl_bounds (l : List Int) (f b a : Int) : 0 ≤ (clL l f b a).1 ∧ (clL l f b a).1 ≤ 5184000 := by
  unfold clL
  split
  · rename_i h
    obtain ⟨_, hl, _⟩ := suB_parts h
    have : ∀ m : List Int, (∀ c ∈ m, 1 ≤ c ∧ c ≤ 5184000) → 0 ≤ (tcL f b a m).1 ∧ (tcL f b a m).1 ≤ 5184000 := by
      intro m
      induction m with
      | nil => intro _; simp [tcL]
      | cons x t ih =>
        intro hm
        rw [tcL]
        split
        · have := hm x (by simp); omega
        · exact ih (fun c hc => hm c (by simp [hc]))
    exact this l hl
  · simp

/-- What RulesClear's loop keeps: the boxes, the findings, and the slice of the two boundaries in block q. -/
def ClP (id i o g sb sa : Int) (a3 a4 a5 a6 p0 p1 p2 p3 p7 p8 p9 p10 p11 p12 p13 : Value) (w : World) (L : Option Addr) (l : List Int) (rs : List (Option Addr × List Fd)) (q : Nat) (W : World) : Prop := ShP id i o g sb sa a3 a4 a5 a6 p0 p1 p2 p3 p7 p8 p9 p10 p11 p12 p13 w L l rs W ∧ W.heap[q]? = some (.cells #[.int .i64 i, .int .i64 o] 2 (0, 0))
theorem ClP.below {id i o g sb sa : Int} {a3 a4 a5 a6 p0 p1 p2 p3 p7 p8 p9 p10 p11 p12 p13 : Value} {w W W' : World} {L : Option Addr} {l : List Int} {rs : List (Option Addr × List Fd)} {q : Nat} (h : ClP id i o g sb sa a3 a4 a5 a6 p0 p1 p2 p3 p7 p8 p9 p10 p11 p12 p13 w L l rs q W) (hb : Below W.heap.size W W') : ClP id i o g sb sa a3 a4 a5 a6 p0 p1 p2 p3 p7 p8 p9 p10 p11 p12 p13 w L l rs q W' := by
  refine ⟨h.1.below hb, (hb.block q ?_).trans h.2⟩
  rcases Nat.lt_or_ge q W.heap.size with h1 | h1
  · exact h1
  · have h := h.2; rw [Array.getElem?_eq_none h1] at h; cases h

set_option maxHeartbeats 4000000 in
set_option maxRecDepth 100000 in
theorem law_Clear (L : Option Addr) (c : Nat) (l : List Int) (id i o g sb sa : Int) (a3 a4 a5 a6 p0 p1 p2 p3 p7 p8 p9 p10 p11 p12 p13 : Value) (w : World) (ht : Tab w) (hR : RdI w w.heap.size L l) (hc : l.length ≤ c) (hm : c ≤ 9223372036854775807) :
    Calls Tryd.prog 6 #[.agg #[.int .i64 id, .int .i64 i, .int .i64 o, a3, a4, a5, a6], .slice L l.length c, .agg #[p0, p1, p2, p3, .int .i64 g, .int .i64 sb, .int .i64 sa, p7, p8, p9, p10, p11, p12, p13]] w fun e w' => e = .returned (.bool true) ∧ Below w.heap.size w w' := by
  have hP0 := shP_start id i o g sb sa a3 a4 a5 a6 p0 p1 p2 p3 p7 p8 p9 p10 p11 p12 p13 w L l ht hR
  have hlen := shotL_len (l.take 8) id i o sb sa
  have hl8 : (l.take 8).length ≤ 8 := List.length_take_le _ _
  have HP0 := Lib.hid hP0
  clear hP0 ht hR
  go_enter Tryd.func6, Tryd.ntmps6
  go_wp2_with fail
  refine (awake_Sh HP0.out).mono ?_
  rintro e W ⟨rfl, hP⟩
  clear HP0
  have HP := Lib.hid hP
  clear hP
  go_wp2_with fail
  refine (law41_changes L c l _ hc hm).mono ?_
  rintro e w' ⟨l8, h8, rfl, rfl⟩
  have hP0 := HP.out.take 8
  clear HP
  rw [← h8] at hP0 hl8 hlen
  clear h8
  have q0 := hP0.cells
  go_wp2_with fail
  refine (rules_Shot_Sh c hP0 (by omega)).mono ?_
  rintro e W1 ⟨A2, c2, rfl, hc2, hP1⟩
  have q1 := hP1.cells
  have HP1 := Lib.hid hP1
  generalize hF : shotL l8 id i o sb sa = F at hlen hc2 HP1
  have HF := Lib.hid hF
  clear hF q0 hP0 hP1
  go_wp2
  have hq : ClP id i o g sb sa a3 a4 a5 a6 p0 p1 p2 p3 p7 p8 p9 p10 p11 p12 p13 w L l8 [(A2, F)] W1.heap.size (W1.alloc (.cells #[.int .i64 i, .int .i64 o] 2)) := ⟨HP1.out.below (bal (Below.refl _ _) _), heap_at_new _ _ _ rfl⟩
  have HQ := Lib.hid hq
  clear hq q1 HP1
  generalize (W1.alloc (.cells #[.int .i64 i, .int .i64 o] 2)) = W2 at HQ ⊢
  generalize W1.heap.size = q at HQ ⊢
  cases hu : usB i o with
  | false =>
    have hFe : F = [] := by rw [← HF.out]; simp [shotL, hu]
    have hcase : i < 0 ∨ (0 ≤ i ∧ o ≤ i) ∨ (0 ≤ i ∧ i < o ∧ 5184000 < o) := by simp [usB] at hu; omega
    clear hu HF
    subst hFe
    rw [show ([] : List Fd).length = 0 from rfl]
    go_loopw [6, 8, 10, 11, 12, 13, 14, 31] (fun _ n _ _ _ _ _ s wr => ∃ k : Nat, k ≤ 2 ∧ s = .int .i64 k ∧ n = .int .i64 0 ∧ ClP id i o g sb sa a3 a4 a5 a6 p0 p1 p2 p3 p7 p8 p9 p10 p11 p12 p13 w L l8 [(A2, [])] q wr) (fun _ _ _ _ _ _ _ s _ => 2 - (intOf s).toNat)
    case atStart => exact ⟨0, by omega, rfl, rfl, HQ.out⟩
    case round =>
      obtain ⟨k, hk, rfl, rfl, hq⟩ := hrel
      have q0 := hq.1.cells
      have HI := Lib.hid hq.1.1.2.2
      have HQ := Lib.hid hq
      by_cases hlt : k < 2
      · obtain ⟨f, hx⟩ : ∃ f, wr.cell? ⟨q, k, none⟩ = some (.int .i64 f) := by
          match k, hlt with
          | 0, _ => exact ⟨i, (cell_of_row wr _ 0 _ _ _ hq.2).trans rfl⟩
          | 1, _ => exact ⟨o, (cell_of_row wr _ 1 _ _ _ hq.2).trans rfl⟩
        clear hq
        cases h1 : (clL l8 f sb sa).2
        all_goals
          rcases hcase with h2 | ⟨h2, h3⟩ | ⟨h2, h3, h4⟩
        all_goals
          go_wp2_with (first | (go_at_call 23; refine (shots_Close _ _ _ _ _ _ _ _ HI.out (by omega)).mono ?_; rintro e w' ⟨rfl, rfl⟩))
          go_roundw
          case rel => exact ⟨k + 1, by omega, by go_num, rfl, HQ.out⟩
          case measure => simp [intOf]; omega
      · clear hq
        go_wp2
        go_ret
        exact ⟨rfl, HQ.out.1.1.1⟩
  | true =>
    have hus : 0 ≤ i ∧ i < o ∧ o ≤ 5184000 := by simpa [usB] using hu
    have HF2 : Hid (shTo l8 id i o sb sa 2 = F) := (shTo_all l8 id i o sb sa hu).trans HF.out
    obtain ⟨u1, u2, u3⟩ := hus
    clear hu HF
    go_loopw [6, 8, 10, 11, 12, 13, 14, 31] (fun _ n _ _ _ _ _ s wr => ∃ k m : Nat, k ≤ 2 ∧ s = .int .i64 k ∧ n = .int .i64 m ∧ Hid ((shTo l8 id i o sb sa k).length = m) ∧ m ≤ 2 ∧ ClP id i o g sb sa a3 a4 a5 a6 p0 p1 p2 p3 p7 p8 p9 p10 p11 p12 p13 w L l8 [(A2, F)] q wr) (fun _ _ _ _ _ _ _ s _ => 2 - (intOf s).toNat)
    case atStart => exact ⟨0, 0, by omega, rfl, rfl, rfl, by omega, HQ.out⟩
    case round =>
      obtain ⟨k, m, hk, rfl, rfl, HM, hm2, hq⟩ := hrel
      have q0 := hq.1.cells
      have HI := Lib.hid hq.1.1.2.2
      have HI' := Lib.hid (hq.1.1.2.2.more (show w.heap.size ≤ wr.heap.size by have := hq.1.lt; omega))
      have HQ := Lib.hid hq
      by_cases hlt : k < 2
      · have HN := Lib.hid (shTo_succ l8 id i o sb sa k hlt)
        have HA := Lib.hid (shTo_at l8 id i o sb sa k hlt)
        obtain ⟨f, hx, hf0, hf1, hfe⟩ : ∃ f, wr.cell? ⟨q, k, none⟩ = some (.int .i64 f) ∧ 0 ≤ f ∧ f ≤ 5184000 ∧ [i, o].getD k 0 = f := by
          match k, hlt with
          | 0, _ => exact ⟨i, (cell_of_row wr _ 0 _ _ _ hq.2).trans rfl, by omega, by omega, rfl⟩
          | 1, _ => exact ⟨o, (cell_of_row wr _ 1 _ _ _ hq.2).trans rfl, by omega, by omega, rfl⟩
        rw [hfe] at HN HA
        clear hq hfe
        cases h1 : (clL l8 f sb sa).2 with
        | false =>
          rw [shotOne_no h1, List.append_nil] at HN
          clear HA
          go_wp2_with (first | (go_at_call 23; refine (shots_Close _ _ _ _ _ _ _ _ HI.out (by omega)).mono ?_; rintro e w' ⟨rfl, rfl⟩))
          go_roundw
          case rel => exact ⟨k + 1, m, by omega, by go_num, rfl, by rw [HN.out]; exact HM, hm2, HQ.out⟩
          case measure => simp [intOf]; omega
        | true =>
          have hA := HA.out h1
          rw [HM.out, HF2.out] at hA
          have hml : m < F.length := (List.getElem?_eq_some_iff.1 hA).1
          have HM1 : Hid ((shTo l8 id i o sb sa (k + 1)).length = m + 1) := by rw [Hid, HN.out, shotOne_amt h1, List.length_append, HM.out]; rfl
          have ham1 := amt_pos l8 f sb sa h1
          have ham2 := amt_le l8 f sb sa hf0 hf1
          obtain ⟨b2, o2, rfl, hb2, hcc⟩ := (HQ.out.1.2.2 (A2, F) (by simp)).at_ (show 0 < F.length by omega)
          have c0 := hcc m _ hA 0 _ rfl
          have c2' := hcc m _ hA 2 _ rfl
          have c3 := hcc m _ hA 3 _ rfl
          simp only [Nat.add_zero] at c0
          have HAS := Lib.hid (amt_is l8 f sb sa)
          have hso := snL_ok l8 f sb sa
          have HAA := Lib.hid hA
          clear HN HA hcc hA
          clear HAA
          generalize amt l8 f sb sa = am at c3 HAS ham1 ham2
          cases h2 : (snL l8 f sb sa).2 with
          | false =>
            go_wp2_with (first | (go_at_call 23; refine (shots_Close _ _ _ _ _ _ _ _ HI.out (by omega)).mono ?_; rintro e w' ⟨rfl, rfl⟩) | (go_at_call 24; refine (shots_Snap _ _ _ _ _ _ _ HI'.out (by omega)).mono ?_))
            rintro e w1 ⟨rfl, hb1⟩
            have HB1 := Lib.hid hb1
            clear hb1
            go_wp2
            go_roundw
            case rel => exact ⟨k + 1, m + 1, by omega, by go_num, by go_num, HM1, by omega, HQ.out.below HB1.out⟩
            case measure => simp [intOf]; omega
          | true =>
            have hs := HAS.out h2
            obtain ⟨hs0, hs1⟩ := hso
            go_wp2_with (first | (go_at_call 23; refine (shots_Close _ _ _ _ _ _ _ _ HI.out (by omega)).mono ?_; rintro e w' ⟨rfl, rfl⟩) | (go_at_call 24; refine (shots_Snap _ _ _ _ _ _ _ HI'.out (by omega)).mono ?_))
            rintro e w1 ⟨rfl, hb1⟩
            have c3' := (hb1.cell (p := ⟨b2, o2 + m * 4 + 3, none⟩) hb2).trans c3
            have HB1 := Lib.hid hb1
            clear hb1
            generalize (snL l8 f sb sa).1 = sn at hs hs0 hs1 ⊢
            rcases hs with hs | hs
            · obtain rfl : sn = f - am := hs
              go_wp2
              go_roundw
              case rel => exact ⟨k + 1, m + 1, by omega, by go_num, by go_num, HM1, by omega, HQ.out.below HB1.out⟩
              case measure => simp [intOf]; omega
            · obtain rfl : sn = f + am := hs
              have hne : ((f + am) != (f - am)) = true := by simp; omega
              go_wp2
              go_roundw
              case rel => exact ⟨k + 1, m + 1, by omega, by go_num, by go_num, HM1, by omega, HQ.out.below HB1.out⟩
              case measure => simp [intOf]; omega
      · obtain rfl : k = 2 := by omega
        have hmF : m = F.length := by rw [← HM.out, HF2.out]
        subst hmF
        clear hq
        go_wp2
        go_ret
        exact ⟨rfl, HQ.out.1.1.1⟩
end Go.Proofs.YtncmdhkmbmkiiaaDoor
