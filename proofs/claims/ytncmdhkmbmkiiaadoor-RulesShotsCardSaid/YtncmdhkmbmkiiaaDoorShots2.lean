/- Contracts of Close and Snap of layer 37, of the program and of the reference. Lists of int64 that read as a list. -/
import Derived.Test.YtncmdhkmbmkiiaaDoorShots
namespace Go.Proofs.YtncmdhkmbmkiiaaDoor
open Go.RowKit

theorem suB_parts {l : List Int} {f b a : Int} (h : suB l f b a = true) : l.length ≤ 400 ∧ (∀ c ∈ l, 1 ≤ c ∧ c ≤ 5184000) ∧ (0 ≤ f ∧ f ≤ 5184000) ∧ (0 ≤ b ∧ b ≤ 5184000) ∧ (0 ≤ a ∧ a ≤ 5184000) := by
  simp [suB, frB] at h
  obtain ⟨⟨⟨h1, h2⟩, h3⟩, h4⟩ := h
  obtain ⟨hm, hl⟩ := shChk_zero l h1
  exact ⟨hm, hl, h2, h3, h4⟩

set_option maxHeartbeats 400000 in
theorem shots_usable (A : Option Addr) (c : Nat) (l : List Int) (B : Nat) (f b a : Int) (w : World) (h : RdI w B A l) (hm : l.length ≤ 9223372036854775807) :
    Calls Tryd.prog 60 #[.slice A l.length c, .int .i64 f, .int .i64 b, .int .i64 a] w fun e w' => e = .returned (.bool (suB l f b a)) ∧ w = w' := by
  have H := Lib.hid h
  clear h
  cases h1 : (shChk l == 0) with
  | false =>
    have HF : Hid (suB l f b a = false) := by simp [Hid, suB, h1]
    go_enter Tryd.func60, Tryd.ntmps60
    go_wp2_with (first | (go_at_call 84; refine (shots_Check _ _ _ B _ H.out hm).mono ?_; rintro e w' ⟨rfl, rfl⟩) | (go_at_call 62; refine (shots_frame _ _).mono ?_; rintro e w' ⟨rfl, rfl⟩))
    go_ret
    exact ⟨ret_bool HF.out.symm, rfl⟩
  | true =>
    cases h2 : frB f with
    | false =>
      have HF : Hid (suB l f b a = false) := by simp [Hid, suB, h2]
      go_enter Tryd.func60, Tryd.ntmps60
      go_wp2_with (first | (go_at_call 84; refine (shots_Check _ _ _ B _ H.out hm).mono ?_; rintro e w' ⟨rfl, rfl⟩) | (go_at_call 62; refine (shots_frame _ _).mono ?_; rintro e w' ⟨rfl, rfl⟩))
      go_ret
      exact ⟨ret_bool HF.out.symm, rfl⟩
    | true =>
      cases h3 : frB b with
      | false =>
        have HF : Hid (suB l f b a = false) := by simp [Hid, suB, h3]
        go_enter Tryd.func60, Tryd.ntmps60
        go_wp2_with (first | (go_at_call 84; refine (shots_Check _ _ _ B _ H.out hm).mono ?_; rintro e w' ⟨rfl, rfl⟩) | (go_at_call 62; refine (shots_frame _ _).mono ?_; rintro e w' ⟨rfl, rfl⟩))
        go_ret
        exact ⟨ret_bool HF.out.symm, rfl⟩
      | true =>
        have HF : Hid (suB l f b a = frB a) := by simp [Hid, suB, h1, h2, h3]
        go_enter Tryd.func60, Tryd.ntmps60
        go_wp2_with (first | (go_at_call 84; refine (shots_Check _ _ _ B _ H.out hm).mono ?_; rintro e w' ⟨rfl, rfl⟩) | (go_at_call 62; refine (shots_frame _ _).mono ?_; rintro e w' ⟨rfl, rfl⟩))
        go_ret
        exact ⟨ret_bool HF.out.symm, rfl⟩

set_option maxHeartbeats 400000 in
theorem shots_Close (A : Option Addr) (c : Nat) (l : List Int) (B : Nat) (f b a : Int) (w : World) (h : RdI w B A l) (hm : l.length ≤ 9223372036854775807) :
    Calls Tryd.prog 23 #[.slice A l.length c, .int .i64 f, .int .i64 b, .int .i64 a] w fun e w' => e = .returned (.tuple #[.int .i64 (clL l f b a).1, .bool (clL l f b a).2]) ∧ w = w' := by
  have H := Lib.hid h
  clear h
  cases h1 : suB l f b a with
  | false =>
    have HF : Hid (clL l f b a = (0, false)) := by simp [Hid, clL, h1]
    go_enter Tryd.func23, Tryd.ntmps23
    go_wp2_with (first | (go_at_call 60; refine (shots_usable _ _ _ B _ _ _ _ H.out hm).mono ?_; rintro e w' ⟨rfl, rfl⟩))
    go_ret2
    exact ⟨ret_ib HF.out.symm, rfl⟩
  | true =>
    have HF : Hid (clL l f b a = tcL f b a l) := by simp [Hid, clL, h1]
    obtain ⟨g1, g2, g3, g4, g5⟩ := suB_parts h1
    go_enter Tryd.func23, Tryd.ntmps23
    go_wp2_with (first | (go_at_call 60; refine (shots_usable _ _ _ B _ _ _ _ H.out hm).mono ?_; rintro e w' ⟨rfl, rfl⟩) | (go_at_call 61; refine (shots_tooClose _ _ _ B _ _ _ _ H.out g2 g1 g3.1 g3.2 g4.1 g4.2 g5.1 g5.2).mono ?_; rintro e w' ⟨rfl, rfl⟩))
    go_ret2
    exact ⟨ret_ib HF.out.symm, rfl⟩
end Go.Proofs.YtncmdhkmbmkiiaaDoor
