/- Contracts of layer 41's usable and Pair, of the program and of the reference: the plain function pairL. -/
import Derived.Test.YtncmdhkmbmkiiaaDoorProg
import Derived.Test.YtncmdhkmbmkiiaaDoorBase
import Derived.Test.YtncmdhkmbmkiiaaDoorPl41
set_option linter.unusedSimpArgs false
set_option linter.unusedVariables false
namespace Go.Proofs.YtncmdhkmbmkiiaaDoor
open Go.RowKit

def encF (f : Fd) : List Value := [.int .u8 f.rule, .int .i64 f.id, .int .i64 f.other, .int .i64 f.amount]
/-- The call returns a slice that reads as L; nothing that was there has changed. -/
def FdRet (w : World) (L : List Fd) (e : Ending) (w' : World) : Prop := ∃ A c, e = .returned (.slice A L.length c) ∧ L.length ≤ c ∧ RdL encF 4 w' w'.heap.size A L ∧ Below w.heap.size w w'

theorem FdRet.none_ {w w' : World} (h : Below w.heap.size w w') : FdRet w [] (.returned (.slice none 0 0)) w' := ⟨none, 0, rfl, Nat.le_refl _, RdL.nil, h⟩
theorem FdRet.one {w w1 : World} (r id o m : Int) (g : Nat) (h : Below w.heap.size w w1) (hg : g = w1.heap.size) :
    FdRet w [⟨r, id, o, m⟩] (.returned (.slice (some ⟨g, 0, none⟩) 1 1)) (w1.alloc (.cells #[.int .u8 r, .int .i64 id, .int .i64 o, .int .i64 m] 35)) := by
  subst hg
  refine ⟨_, 1, rfl, Nat.le_refl _, .inr ⟨w1.heap.size, 0, rfl, by simp, fun i x hx j v hv => ?_⟩, h.alloc h.size _⟩
  cases i with
  | zero =>
    simp at hx; subst hx
    have := new_cells w1 35 (encF ⟨r, id, o, m⟩) j v hv
    rw [← this]
    unfold Addr.add
    split
    · rename_i e0; subst e0; rfl
    · simp [encF]
  | succ i => simp at hx

set_option maxHeartbeats 400000 in
theorem rules_usable (i o : Int) (w : World) :
    Calls Tryd.prog 56 #[.agg #[.int .i64 i, .int .i64 o]] w fun e w' => e = .returned (.bool (usB i o)) ∧ w.alloc (.cells #[.int .i64 i, .int .i64 o] 23) = w' := by
  by_cases h0 : 0 ≤ i
  · by_cases h1 : i < o
    · by_cases h2 : o ≤ 5184000
      all_goals
        have hr : Hid (usB i o = decide (0 ≤ i ∧ i < o ∧ o ≤ 5184000)) := rfl
        go_enter Tryd.func56, Tryd.ntmps56
        go_wp2
        go_ret
        exact ⟨ret_bool (by rw [hr.out]; simp [h0, h1, h2]), rfl⟩
    · have hr : Hid (usB i o = false) := by simp [Hid, usB]; omega
      go_enter Tryd.func56, Tryd.ntmps56
      go_wp2
      go_ret
      exact ⟨ret_bool hr.out.symm, rfl⟩
  · have hr : Hid (usB i o = false) := by simp [Hid, usB]; omega
    go_enter Tryd.func56, Tryd.ntmps56
    go_wp2
    go_ret
    exact ⟨ret_bool hr.out.symm, rfl⟩

set_option maxHeartbeats 1000000 in
theorem rules_Pair (aid ai ao bid bi bo gap : Int) (a3 a4 a5 a6 b3 b4 b5 b6 p0 p1 p2 p3 p5 p6 p7 p8 p9 p10 p11 p12 p13 : Value) (w : World) (hg : gap ≤ 9223372036854775807) :
    Calls Tryd.prog 17 #[.agg #[.int .i64 aid, .int .i64 ai, .int .i64 ao, a3, a4, a5, a6], .agg #[.int .i64 bid, .int .i64 bi, .int .i64 bo, b3, b4, b5, b6], .agg #[p0, p1, p2, p3, .int .i64 gap, p5, p6, p7, p8, p9, p10, p11, p12, p13]] w
      (FdRet w (pairL aid ai ao bid bi bo gap)) := by
  cases h1 : usB ai ao with
  | false =>
    have HR : Hid (pairL aid ai ao bid bi bo gap = []) := by simp [Hid, pairL, h1]
    go_enter Tryd.func17, Tryd.ntmps17
    go_wp2_with (first | (go_at_call 56; refine (rules_usable _ _ _).mono ?_; rintro e w' ⟨rfl, rfl⟩))
    go_ret
    rw [HR.out]
    exact FdRet.none_ (bal (bal (bal (bal (Below.refl _ _) _) _) _) _)
  | true =>
    cases h2 : usB bi bo with
    | false =>
      have HR : Hid (pairL aid ai ao bid bi bo gap = []) := by simp [Hid, pairL, h2]
      go_enter Tryd.func17, Tryd.ntmps17
      go_wp2_with (first | (go_at_call 56; refine (rules_usable _ _ _).mono ?_; rintro e w' ⟨rfl, rfl⟩))
      go_ret
      rw [HR.out]
      exact FdRet.none_ (bal (bal (bal (bal (bal (Below.refl _ _) _) _) _) _) _)
    | true =>
      have ha : 0 ≤ ai ∧ ai < ao ∧ ao ≤ 5184000 := by simpa [usB] using h1
      have hb : 0 ≤ bi ∧ bi < bo ∧ bo ≤ 5184000 := by simpa [usB] using h2
      obtain ⟨a1, a2, a3'⟩ := ha
      obtain ⟨b1, b2, b3'⟩ := hb
      by_cases hc : 0 < min ao bo - max ai bi
      · by_cases m1 : ao ≤ bo <;> by_cases m2 : ai < bi
        all_goals
          have HR := Lib.hid (show pairL aid ai ao bid bi bo gap = [⟨5, aid, bid, min ao bo - max ai bi⟩] by simp only [pairL, h1, h2, Bool.and_self, if_true]; rw [if_pos hc])
          first | rw [Int.min_eq_left m1] at HR hc | rw [Int.min_eq_right (by omega)] at HR hc
          first | rw [Int.max_eq_right (by omega)] at HR hc | rw [Int.max_eq_left (by omega)] at HR hc
          go_enter Tryd.func17, Tryd.ntmps17
          go_wp2_with (first | (go_at_call 56; refine (rules_usable _ _ _).mono ?_; rintro e w' ⟨rfl, rfl⟩))
          go_ret
          rw [HR.out]
          exact FdRet.one 5 aid bid _ _ (bal (bal (bal (bal (bal (Below.refl _ _) _) _) _) _) _) (by simp)
      · by_cases hd : 0 ≤ bi - ao ∧ bi - ao < gap
        · obtain ⟨d1, d2⟩ := hd
          have HR := Lib.hid (show pairL aid ai ao bid bi bo gap = [⟨4, aid, bid, gap - (bi - ao)⟩] by simp only [pairL, h1, h2, hc, Bool.and_self, if_true, if_false]; rw [if_pos ⟨d1, d2⟩])
          by_cases m1 : ao ≤ bo <;> by_cases m2 : ai < bi
          all_goals
            first | rw [Int.min_eq_left m1] at hc | rw [Int.min_eq_right (by omega)] at hc
            first | rw [Int.max_eq_right (by omega)] at hc | rw [Int.max_eq_left (by omega)] at hc
            first | (exfalso; omega) | skip
          all_goals
            go_enter Tryd.func17, Tryd.ntmps17
            go_wp2_with (first | (go_at_call 56; refine (rules_usable _ _ _).mono ?_; rintro e w' ⟨rfl, rfl⟩))
            go_ret
            rw [HR.out]
            exact FdRet.one 4 aid bid _ _ (bal (bal (bal (bal (bal (Below.refl _ _) _) _) _) _) _) (by simp)
        · have HR := Lib.hid (show pairL aid ai ao bid bi bo gap = [] by simp only [pairL, h1, h2, hc, hd, Bool.and_self, if_true, if_false])
          by_cases m1 : ao ≤ bo <;> by_cases m2 : ai < bi
          all_goals
            first | rw [Int.min_eq_left m1] at hc | rw [Int.min_eq_right (by omega)] at hc
            first | rw [Int.max_eq_right (by omega)] at hc | rw [Int.max_eq_left (by omega)] at hc
            by_cases d1 : 0 ≤ bi - ao
          all_goals
            first | (exfalso; omega) | skip
          all_goals
            go_enter Tryd.func17, Tryd.ntmps17
            go_wp2_with (first | (go_at_call 56; refine (rules_usable _ _ _).mono ?_; rintro e w' ⟨rfl, rfl⟩))
            go_ret
            rw [HR.out]
            exact FdRet.none_ (bal (bal (bal (bal (bal (Below.refl _ _) _) _) _) _) _)
set_option maxHeartbeats 400000 in
theorem ref41_usable (i o : Int) (w : World) :
    Calls Tryd.prog 57 #[.agg #[.int .i64 i, .int .i64 o]] w fun e w' => e = .returned (.bool (usB i o)) ∧ w.alloc (.cells #[.int .i64 i, .int .i64 o] 23) = w' := by
  by_cases h0 : 0 ≤ i
  · by_cases h1 : i < o
    · by_cases h2 : o ≤ 5184000
      all_goals
        have hr : Hid (usB i o = decide (0 ≤ i ∧ i < o ∧ o ≤ 5184000)) := rfl
        go_enter Tryd.func57, Tryd.ntmps57
        go_wp2
        go_ret
        exact ⟨ret_bool (by rw [hr.out]; simp [h0, h1, h2]), rfl⟩
    · have hr : Hid (usB i o = false) := by simp [Hid, usB]; omega
      go_enter Tryd.func57, Tryd.ntmps57
      go_wp2
      go_ret
      exact ⟨ret_bool hr.out.symm, rfl⟩
  · have hr : Hid (usB i o = false) := by simp [Hid, usB]; omega
    go_enter Tryd.func57, Tryd.ntmps57
    go_wp2
    go_ret
    exact ⟨ret_bool hr.out.symm, rfl⟩

set_option maxHeartbeats 1000000 in
theorem ref41_Pair (aid ai ao bid bi bo gap : Int) (a3 a4 a5 a6 b3 b4 b5 b6 p0 p1 p2 p3 p5 p6 p7 p8 p9 p10 p11 p12 p13 : Value) (w : World) (hg : gap ≤ 9223372036854775807) :
    Calls Tryd.prog 18 #[.agg #[.int .i64 aid, .int .i64 ai, .int .i64 ao, a3, a4, a5, a6], .agg #[.int .i64 bid, .int .i64 bi, .int .i64 bo, b3, b4, b5, b6], .agg #[p0, p1, p2, p3, .int .i64 gap, p5, p6, p7, p8, p9, p10, p11, p12, p13]] w
      (FdRet w (pairL aid ai ao bid bi bo gap)) := by
  cases h1 : usB ai ao with
  | false =>
    have HR : Hid (pairL aid ai ao bid bi bo gap = []) := by simp [Hid, pairL, h1]
    go_enter Tryd.func18, Tryd.ntmps18
    go_wp2_with (first | (go_at_call 57; refine (ref41_usable _ _ _).mono ?_; rintro e w' ⟨rfl, rfl⟩))
    go_ret
    rw [HR.out]
    exact FdRet.none_ (bal (bal (bal (bal (Below.refl _ _) _) _) _) _)
  | true =>
    cases h2 : usB bi bo with
    | false =>
      have HR : Hid (pairL aid ai ao bid bi bo gap = []) := by simp [Hid, pairL, h2]
      go_enter Tryd.func18, Tryd.ntmps18
      go_wp2_with (first | (go_at_call 57; refine (ref41_usable _ _ _).mono ?_; rintro e w' ⟨rfl, rfl⟩))
      go_ret
      rw [HR.out]
      exact FdRet.none_ (bal (bal (bal (bal (bal (Below.refl _ _) _) _) _) _) _)
    | true =>
      have ha : 0 ≤ ai ∧ ai < ao ∧ ao ≤ 5184000 := by simpa [usB] using h1
      have hb : 0 ≤ bi ∧ bi < bo ∧ bo ≤ 5184000 := by simpa [usB] using h2
      obtain ⟨a1, a2, a3'⟩ := ha
      obtain ⟨b1, b2, b3'⟩ := hb
      by_cases hc : 0 < min ao bo - max ai bi
      · by_cases m1 : ao ≤ bo <;> by_cases m2 : ai < bi
        all_goals
          have HR := Lib.hid (show pairL aid ai ao bid bi bo gap = [⟨5, aid, bid, min ao bo - max ai bi⟩] by simp only [pairL, h1, h2, Bool.and_self, if_true]; rw [if_pos hc])
          first | rw [Int.min_eq_left m1] at HR hc | rw [Int.min_eq_right (by omega)] at HR hc
          first | rw [Int.max_eq_right (by omega)] at HR hc | rw [Int.max_eq_left (by omega)] at HR hc
          go_enter Tryd.func18, Tryd.ntmps18
          go_wp2_with (first | (go_at_call 57; refine (ref41_usable _ _ _).mono ?_; rintro e w' ⟨rfl, rfl⟩))
          go_ret
          rw [HR.out]
          exact FdRet.one 5 aid bid _ _ (bal (bal (bal (bal (bal (Below.refl _ _) _) _) _) _) _) (by simp)
      · by_cases hd : 0 ≤ bi - ao ∧ bi - ao < gap
        · obtain ⟨d1, d2⟩ := hd
          have HR := Lib.hid (show pairL aid ai ao bid bi bo gap = [⟨4, aid, bid, gap - (bi - ao)⟩] by simp only [pairL, h1, h2, hc, Bool.and_self, if_true, if_false]; rw [if_pos ⟨d1, d2⟩])
          by_cases m1 : ao ≤ bo <;> by_cases m2 : ai < bi
          all_goals
            first | rw [Int.min_eq_left m1] at hc | rw [Int.min_eq_right (by omega)] at hc
            first | rw [Int.max_eq_right (by omega)] at hc | rw [Int.max_eq_left (by omega)] at hc
            first | (exfalso; omega) | skip
          all_goals
            go_enter Tryd.func18, Tryd.ntmps18
            go_wp2_with (first | (go_at_call 57; refine (ref41_usable _ _ _).mono ?_; rintro e w' ⟨rfl, rfl⟩))
            go_ret
            rw [HR.out]
            exact FdRet.one 4 aid bid _ _ (bal (bal (bal (bal (bal (Below.refl _ _) _) _) _) _) _) (by simp)
        · have HR := Lib.hid (show pairL aid ai ao bid bi bo gap = [] by simp only [pairL, h1, h2, hc, hd, Bool.and_self, if_true, if_false])
          by_cases m1 : ao ≤ bo <;> by_cases m2 : ai < bi
          all_goals
            first | rw [Int.min_eq_left m1] at hc | rw [Int.min_eq_right (by omega)] at hc
            first | rw [Int.max_eq_right (by omega)] at hc | rw [Int.max_eq_left (by omega)] at hc
            by_cases d1 : 0 ≤ bi - ao
          all_goals
            first | (exfalso; omega) | skip
          all_goals
            go_enter Tryd.func18, Tryd.ntmps18
            go_wp2_with (first | (go_at_call 57; refine (ref41_usable _ _ _).mono ?_; rintro e w' ⟨rfl, rfl⟩))
            go_ret
            rw [HR.out]
            exact FdRet.none_ (bal (bal (bal (bal (bal (Below.refl _ _) _) _) _) _) _)
end Go.Proofs.YtncmdhkmbmkiiaaDoor
