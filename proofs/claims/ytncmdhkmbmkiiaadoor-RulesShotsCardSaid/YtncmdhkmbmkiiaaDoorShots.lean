/- Contracts of layer 37's functions that layer 41 uses, of the program and of the reference: each computes the plain function of Pl41. Lists of int64 that read as a list. -/
import Derived.Test.YtncmdhkmbmkiiaaDoorProg
import Derived.Test.YtncmdhkmbmkiiaaDoorBase
import Derived.Test.YtncmdhkmbmkiiaaDoorPl41
namespace Go.Proofs.YtncmdhkmbmkiiaaDoor
open Go.RowKit

set_option maxHeartbeats 400000 in
theorem shots_Check (A : Option Addr) (c : Nat) (l : List Int) (B : Nat) (w : World) (h : RdI w B A l) (hm : l.length ≤ 9223372036854775807) :
    Calls Tryd.prog 84 #[.slice A l.length c] w fun e w' => e = .returned (.int .i64 (shChk l)) ∧ w = w' := by
  by_cases h9 : 400 < l.length
  · have hr : shChk l = 9 := by simp [shChk, h9]
    have HR := Lib.hid hr
    clear hr
    go_enter Tryd.func84, Tryd.ntmps84
    go_wp2
    go_ret
    exact ⟨ret_int HR.out.symm, rfl⟩
  · have hr : shChk l = chkL (prevOf l 0) (l.drop 0) := by simp [shChk, h9, prevOf]
    have HR := Lib.hid hr
    have H := Lib.hid h
    clear hr h
    go_enter Tryd.func84, Tryd.ntmps84
    go_wp2
    go_loop [2, 3, 4, 10] (fun _ _ _ i => ∃ k : Nat, k ≤ l.length ∧ i = .int .i64 k ∧ Hid (shChk l = chkL (prevOf l k) (l.drop k))) (fun _ _ _ i => l.length - (intOf i).toNat)
    case atStart => exact ⟨0, Nat.zero_le _, rfl, HR⟩
    case round =>
      obtain ⟨k, hk, rfl, HK⟩ := hrel
      by_cases hlt : k < l.length
      · obtain ⟨b, off, rfl, _, hc⟩ := H.out.at_ (show 0 < l.length by omega)
        have hck := hc k hlt
        have hst := chkL_step l k hlt
        by_cases h2 : l[k] < 1 ∨ 5184000 < l[k]
        · have hfin : shChk l = 2 := by rw [HK.out, hst]; simp [h2]
          have HF := Lib.hid hfin
          clear hfin hst hc HK HR
          rcases h2 with h2 | h2
          all_goals
            go_wp2
            go_ret
            exact ⟨ret_int HF.out.symm, rfl⟩
        · have h3 : 1 ≤ l[k] := by omega
          have h4 : l[k] ≤ 5184000 := by omega
          rw [if_neg (by simpa using h2)] at hst
          clear h2
          by_cases h0 : 0 < k
          · have hcp := hc (k - 1) (by omega)
            rw [tooLow_pos l k hlt h0] at hst
            generalize l[k - 1]'(by omega) = p at hcp hst
            generalize l[k] = q at hck hst h3 h4
            by_cases h5 : q ≤ p
            · have hfin : shChk l = 8 := by rw [HK.out, hst]; simp [h5]
              have HF := Lib.hid hfin
              clear hfin hst hc HK HR
              go_wp2
              go_ret
              exact ⟨ret_int HF.out.symm, rfl⟩
            · have hfin : shChk l = chkL (prevOf l (k + 1)) (l.drop (k + 1)) := by rw [HK.out, hst]; simp [h5]
              have HF := Lib.hid hfin
              clear hfin hst hc HK HR
              go_wp2
              go_round
              case rel => exact ⟨k + 1, by omega, by go_num, HF⟩
              case measure => simp [intOf]; omega
          · obtain rfl : k = 0 := by omega
            simp only [Nat.add_zero] at hck
            generalize l[0] = q at hck hst h3 h4
            have hfin : shChk l = chkL (prevOf l (0 + 1)) (l.drop (0 + 1)) := by rw [HK.out, hst]; simp [tooLow_zero]
            have HF := Lib.hid hfin
            clear hfin hst hc HK HR
            go_wp2
            go_round
            case rel => exact ⟨0 + 1, by omega, by go_num, HF⟩
            case measure => simp [intOf]; omega
      · obtain rfl : k = l.length := by omega
        have hfin : shChk l = 0 := by rw [HK.out]; exact chkL_end l
        have HF := Lib.hid hfin
        clear hfin HK HR
        go_wp2
        go_ret
        exact ⟨ret_int HF.out.symm, rfl⟩

set_option maxHeartbeats 400000 in
theorem shots_frame (f : Int) (w : World) : Calls Tryd.prog 62 #[.int .i64 f] w fun e w' => e = .returned (.bool (frB f)) ∧ w = w' := by
  unfold frB
  by_cases h0 : 0 ≤ f
  · by_cases h1 : f ≤ 5184000
    all_goals
      go_enter Tryd.func62, Tryd.ntmps62
      go_wp2
      go_ret
      exact ⟨ret_bool (by simp [h0, h1]), rfl⟩
  · go_enter Tryd.func62, Tryd.ntmps62
    go_wp2
    go_ret
    exact ⟨ret_bool (by simp; omega), rfl⟩

set_option maxHeartbeats 400000 in
theorem shots_size (n : Int) (w : World) (h0 : -9223372036854775807 ≤ n) (h1 : n ≤ 9223372036854775807) : Calls Tryd.prog 63 #[.int .i64 n] w fun e w' => e = .returned (.int .i64 (absI n)) ∧ w = w' := by
  unfold absI
  go_enter Tryd.func63, Tryd.ntmps63
  go_wp2
  all_goals
    go_ret
    exact ⟨ret_int (by omega), rfl⟩
set_option maxHeartbeats 400000 in
theorem ref37_Check (A : Option Addr) (c : Nat) (l : List Int) (B : Nat) (w : World) (h : RdI w B A l) (hm : l.length ≤ 9223372036854775807) :
    Calls Tryd.prog 81 #[.slice A l.length c] w fun e w' => e = .returned (.int .i64 (shChk l)) ∧ w = w' := by
  by_cases h9 : 400 < l.length
  · have hr : shChk l = 9 := by simp [shChk, h9]
    have HR := Lib.hid hr
    clear hr
    go_enter Tryd.func81, Tryd.ntmps81
    go_wp2
    go_ret
    exact ⟨ret_int HR.out.symm, rfl⟩
  · have hr : shChk l = chkL (prevOf l 0) (l.drop 0) := by simp [shChk, h9, prevOf]
    have HR := Lib.hid hr
    have H := Lib.hid h
    clear hr h
    go_enter Tryd.func81, Tryd.ntmps81
    go_wp2
    go_loop [2, 3, 4, 10] (fun _ _ _ i => ∃ k : Nat, k ≤ l.length ∧ i = .int .i64 k ∧ Hid (shChk l = chkL (prevOf l k) (l.drop k))) (fun _ _ _ i => l.length - (intOf i).toNat)
    case atStart => exact ⟨0, Nat.zero_le _, rfl, HR⟩
    case round =>
      obtain ⟨k, hk, rfl, HK⟩ := hrel
      by_cases hlt : k < l.length
      · obtain ⟨b, off, rfl, _, hc⟩ := H.out.at_ (show 0 < l.length by omega)
        have hck := hc k hlt
        have hst := chkL_step l k hlt
        by_cases h2 : l[k] < 1 ∨ 5184000 < l[k]
        · have hfin : shChk l = 2 := by rw [HK.out, hst]; simp [h2]
          have HF := Lib.hid hfin
          clear hfin hst hc HK HR
          rcases h2 with h2 | h2
          all_goals
            go_wp2
            go_ret
            exact ⟨ret_int HF.out.symm, rfl⟩
        · have h3 : 1 ≤ l[k] := by omega
          have h4 : l[k] ≤ 5184000 := by omega
          rw [if_neg (by simpa using h2)] at hst
          clear h2
          by_cases h0 : 0 < k
          · have hcp := hc (k - 1) (by omega)
            rw [tooLow_pos l k hlt h0] at hst
            generalize l[k - 1]'(by omega) = p at hcp hst
            generalize l[k] = q at hck hst h3 h4
            by_cases h5 : q ≤ p
            · have hfin : shChk l = 8 := by rw [HK.out, hst]; simp [h5]
              have HF := Lib.hid hfin
              clear hfin hst hc HK HR
              go_wp2
              go_ret
              exact ⟨ret_int HF.out.symm, rfl⟩
            · have hfin : shChk l = chkL (prevOf l (k + 1)) (l.drop (k + 1)) := by rw [HK.out, hst]; simp [h5]
              have HF := Lib.hid hfin
              clear hfin hst hc HK HR
              go_wp2
              go_round
              case rel => exact ⟨k + 1, by omega, by go_num, HF⟩
              case measure => simp [intOf]; omega
          · obtain rfl : k = 0 := by omega
            simp only [Nat.add_zero] at hck
            generalize l[0] = q at hck hst h3 h4
            have hfin : shChk l = chkL (prevOf l (0 + 1)) (l.drop (0 + 1)) := by rw [HK.out, hst]; simp [tooLow_zero]
            have HF := Lib.hid hfin
            clear hfin hst hc HK HR
            go_wp2
            go_round
            case rel => exact ⟨0 + 1, by omega, by go_num, HF⟩
            case measure => simp [intOf]; omega
      · obtain rfl : k = l.length := by omega
        have hfin : shChk l = 0 := by rw [HK.out]; exact chkL_end l
        have HF := Lib.hid hfin
        clear hfin HK HR
        go_wp2
        go_ret
        exact ⟨ret_int HF.out.symm, rfl⟩

set_option maxHeartbeats 400000 in
theorem ref37_frame (f : Int) (w : World) : Calls Tryd.prog 82 #[.int .i64 f] w fun e w' => e = .returned (.bool (frB f)) ∧ w = w' := by
  unfold frB
  by_cases h0 : 0 ≤ f
  · by_cases h1 : f ≤ 5184000
    all_goals
      go_enter Tryd.func82, Tryd.ntmps82
      go_wp2
      go_ret
      exact ⟨ret_bool (by simp [h0, h1]), rfl⟩
  · go_enter Tryd.func82, Tryd.ntmps82
    go_wp2
    go_ret
    exact ⟨ret_bool (by simp; omega), rfl⟩

set_option maxHeartbeats 400000 in
theorem ref37_far (n : Int) (w : World) (h0 : -9223372036854775807 ≤ n) (h1 : n ≤ 9223372036854775807) : Calls Tryd.prog 83 #[.int .i64 n] w fun e w' => e = .returned (.int .i64 (absI n)) ∧ w = w' := by
  unfold absI
  go_enter Tryd.func83, Tryd.ntmps83
  go_wp2
  all_goals
    go_ret
    exact ⟨ret_int (by omega), rfl⟩

set_option maxHeartbeats 400000 in
theorem shots_tooClose (A : Option Addr) (c : Nat) (l : List Int) (B : Nat) (f b a : Int) (w : World) (h : RdI w B A l) (hl : ∀ x ∈ l, 1 ≤ x ∧ x ≤ 5184000) (hm : l.length ≤ 400) (hf : 0 ≤ f) (hf' : f ≤ 5184000) (hb : 0 ≤ b) (hb' : b ≤ 5184000) (ha : 0 ≤ a) (ha' : a ≤ 5184000) :
    Calls Tryd.prog 61 #[.slice A l.length c, .int .i64 f, .int .i64 b, .int .i64 a] w fun e w' => e = .returned (.tuple #[.int .i64 (tcL f b a l).1, .bool (tcL f b a l).2]) ∧ w = w' := by
  have HR : Hid (tcL f b a l = tcL f b a (l.drop 0)) := by simp [Hid]
  have H := Lib.hid h
  have HL := Lib.hid hl
  clear h hl
  go_enter Tryd.func61, Tryd.ntmps61
  go_wp2
  go_loop [8, 9, 11, 14] (fun _ _ _ i => ∃ k : Nat, k ≤ l.length ∧ i = .int .i64 k ∧ Hid (tcL f b a l = tcL f b a (l.drop k))) (fun _ _ _ i => l.length - (intOf i).toNat)
  case atStart => exact ⟨0, Nat.zero_le _, rfl, HR⟩
  case round =>
    obtain ⟨k, hk, rfl, HK⟩ := hrel
    by_cases hlt : k < l.length
    · obtain ⟨bk, off, rfl, _, hc⟩ := H.out.at_ (show 0 < l.length by omega)
      have hck := hc k hlt
      have hst := tcL_step f b a l k hlt
      have hx := HL.out l[k] (List.getElem_mem hlt)
      obtain ⟨hx1, hx2⟩ := hx
      generalize l[k] = q at hck hst hx1 hx2
      clear hc
      by_cases ht : tcB f b a q = true
      · have hfin : tcL f b a l = (q, true) := by rw [HK.out, hst, if_pos ht]
        have HF := Lib.hid hfin
        clear hfin hst HK HR
        unfold tcB at ht
        simp only [decide_eq_true_eq] at ht
        rcases ht with ⟨h1, h2⟩ | ⟨h1, h2⟩
        all_goals
          go_wp2
          go_ret2
          exact ⟨ret_ib HF.out.symm, rfl⟩
      · have hfin : tcL f b a l = tcL f b a (l.drop (k + 1)) := by rw [HK.out, hst, if_neg ht]
        have HF := Lib.hid hfin
        clear hfin hst HK HR
        have h1 : ¬ (q - b < f ∧ f < q ∨ q < f ∧ f < q + a) := by simpa [tcB] using ht
        clear ht
        go_wp2
        all_goals first | (exfalso; omega) | skip
        all_goals
          go_round
          case rel => exact ⟨k + 1, by omega, by go_num, HF⟩
          case measure => simp [intOf]; omega
    · obtain rfl : k = l.length := by omega
      have hfin : tcL f b a l = (0, false) := by rw [HK.out]; exact tcL_end f b a l
      have HF := Lib.hid hfin
      clear hfin HK HR
      go_wp2
      go_ret2
      exact ⟨ret_ib HF.out.symm, rfl⟩
end Go.Proofs.YtncmdhkmbmkiiaaDoor
