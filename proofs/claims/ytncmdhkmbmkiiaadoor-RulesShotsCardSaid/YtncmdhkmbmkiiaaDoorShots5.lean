/- The contract of the reference's Snap of layer 37: the plain function snL. -/
import Derived.Test.YtncmdhkmbmkiiaaDoorShots3
namespace Go.Proofs.YtncmdhkmbmkiiaaDoor
open Go.RowKit

theorem ref37_CloseU (A : Option Addr) (c : Nat) (l : List Int) (B : Nat) (f b a : Int) (w : World) (h : RdI w B A l) (hm : l.length ≤ 9223372036854775807) (hs : suB l f b a = true) :
    Calls Tryd.prog 58 #[.slice A l.length c, .int .i64 f, .int .i64 b, .int .i64 a] w fun e w' => e = .returned (.tuple #[.int .i64 (tcL f b a l).1, .bool (tcL f b a l).2]) ∧ w = w' := by
  have h1 := ref37_Close A c l B f b a w h hm
  rw [show clL l f b a = tcL f b a l by simp [clL, hs]] at h1
  exact h1

theorem suB_at {l : List Int} {f b a p : Int} (hs : suB l f b a = true) (hp : frB p = true) : suB l p b a = true := by
  unfold suB at hs ⊢
  rw [hp]
  simp at hs ⊢
  exact ⟨⟨hs.1.1.1, hs.1.2⟩, hs.2⟩

set_option maxHeartbeats 1000000 in
set_option maxRecDepth 100000 in
theorem ref37_Snap (A : Option Addr) (c : Nat) (l : List Int) (f b a : Int) (w : World) (h : RdI w w.heap.size A l) (hm : l.length ≤ 9223372036854775807) :
    Calls Tryd.prog 59 #[.slice A l.length c, .int .i64 f, .int .i64 b, .int .i64 a] w fun e w' => e = .returned (.tuple #[.int .i64 (snL l f b a).1, .bool (snL l f b a).2]) ∧ Below w.heap.size w w' := by
  have H := Lib.hid h
  clear h
  cases h1 : suB l f b a with
  | false =>
    have HF : Hid (snL l f b a = (0, false)) := by simp [Hid, snL, h1]
    rcases suB_false h1 with h2 | ⟨h2, h3⟩ | ⟨h2, h3, h4⟩ | ⟨h2, h3, h4, h5⟩
    all_goals
      clear h1
      go_enter Tryd.func59, Tryd.ntmps59
      go_wp2_with (first | (go_at_call 81; refine (ref37_Check _ _ _ _ _ H.out hm).mono ?_; rintro e w' ⟨rfl, rfl⟩) | (go_at_call 82; refine (ref37_frame _ _).mono ?_; rintro e w' ⟨rfl, rfl⟩))
      go_ret2
      exact ⟨ret_ib HF.out.symm, Below.refl _ _⟩
  | true =>
    obtain ⟨i0, hi, hz0, hz1, hz2⟩ := info_parts i64_info
    have HS : Hid (snL l f b a = (snPl l f b a l.length).foldl (snStep l f b a) (0, false)) := by simp [Hid, snL, h1, snPl_all]
    obtain ⟨g1, g2, ⟨hf, hf'⟩, ⟨hb, hb'⟩, ⟨ha, ha'⟩⟩ := suB_parts h1
    have HL := Lib.hid g2
    obtain ⟨h2, h3, h4, h5⟩ := suB_true h1
    have HU := Lib.hid h1
    clear g2 h1
    go_enter Tryd.func59, Tryd.ntmps59
    go_wp2_with (first | (go_at_call 81; refine (ref37_Check _ _ _ _ _ H.out hm).mono ?_; rintro e w' ⟨rfl, rfl⟩) | (go_at_call 82; refine (ref37_frame _ _).mono ?_; rintro e w' ⟨rfl, rfl⟩))
    clear h2 h3 h4 h5
    go_loopw [10, 12, 41] (fun v _ i wr => ∃ k : Nat, k ≤ l.length ∧ i = .int .i64 k ∧ wr.ownsRow w.heap.size 2 1 v (1 + 3 * k) ((snPl l f b a k).map (Value.int .i64)) ∧ Below w.heap.size w wr) (fun _ _ i _ => l.length - (intOf i).toNat)
    case atStart => exact ⟨0, Nat.zero_le _, rfl, by rw [snPl_zero]; exact World.ownsRow_lit w _ 1 (Nat.le_refl _) (by decide) rfl, (Below.refl _ _).alloc (Nat.le_refl _) _⟩
    case round =>
      obtain ⟨k, hk, rfl, hown, hbel⟩ := hrel
      by_cases hlt : k < l.length
      · obtain ⟨bk, off, rfl, hbk, hc⟩ := (H.out.below hbel).at_ (show 0 < l.length by omega)
        have hck := hc k hlt
        have hx := HL.out l[k] (List.getElem_mem hlt)
        obtain ⟨hx1, hx2⟩ := hx
        have HPS := Lib.hid (snPl_succ l f b a k hlt)
        generalize l[k] = q at hck HPS hx1 hx2
        clear hc
        have hsz := hbel.size
        go_wp2_with (at_builtin; refine wpList_append_own _ rfl _ _ 38 rfl w.heap.size 2 i0 (.int .i64 0) 1 8 Tryd.underlying38 hi hz0 hz1 hz2 rfl (by decide) _ _ _ rfl (hown.alloc _) ⟨wr.heap.size, 0, none⟩ 3 3 [.int .i64 (q - b), .int .i64 q, .int .i64 (q + a)] rfl rfl ?c1 ?c2 ?c3 ?c4 ?c5 ?_)
        case c1 => exact new_cells wr _ _
        case c2 => intro u hu; simp at hu; rcases hu with rfl | rfl | rfl <;> rfl
        case c3 => unfold maxLen; omega
        case c4 => omega
        case c5 => simp; omega
        intro v' w1 hown' hgrow _
        have hb1 : Below w.heap.size w w1 := (hbel.alloc hsz _).grown hgrow (by simp; omega) (fun g hg => (hown.lt g hg).1)
        go_wp2
        go_roundw
        case rel => exact ⟨k + 1, by omega, by go_num, by rw [HPS.out, show 1 + 3 * (k + 1) = 1 + 3 * k + 3 by omega]; simpa using hown', hb1⟩
        case measure => simp [intOf]; omega
      · obtain rfl : k = l.length := by omega
        obtain ⟨A2, c2, rfl⟩ := own_form hown
        have hPl := snPl_len l f b a l.length (Nat.le_refl _)
        have HP := Lib.hid (RdI.of_own hown hPl.symm)
        have HA := Lib.hid (H.out.below hbel)
        generalize snPl l f b a l.length = P at HS hPl HP
        clear hown
        rw [← hPl]
        have hPm : P.length ≤ 1201 := by omega
        have HPl := Lib.hid hPl
        clear hPl
        go_wp2
        go_loop [13, 14, 16, 17, 18, 58] (fun bst ok _ _ _ i => ∃ k : Nat, k ≤ P.length ∧ i = .int .i64 k ∧ bst = .int .i64 (snSt l f b a P k).1 ∧ ok = .bool (snSt l f b a P k).2) (fun _ _ _ _ _ i => P.length - (intOf i).toNat)
        case atStart => exact ⟨0, Nat.zero_le _, rfl, rfl, rfl⟩
        case round =>
          obtain ⟨k, hk, rfl, rfl, rfl⟩ := hrel
          by_cases hlt : k < P.length
          · obtain ⟨bk, off, rfl, hbk, hc⟩ := HP.out.at_ (show 0 < P.length by omega)
            have hck := hc k hlt
            have HST := Lib.hid (snSt_succ l f b a P k hlt)
            have hbo := snSt_ok l f b a P k (by omega)
            obtain ⟨hb1, hb2⟩ := hbo
            rw [show snSt l f b a P k = ((snSt l f b a P k).1, (snSt l f b a P k).2) from rfl] at HST
            generalize (snSt l f b a P k).1 = best at HST hb1 hb2 ⊢
            generalize (snSt l f b a P k).2 = ok at HST ⊢
            generalize P[k] = p at hck HST
            clear hc
            cases h2 : frB p with
            | false =>
              have HN : Hid (snSt l f b a P (k + 1) = (best, ok)) := by rw [Hid, HST.out, snStep, h2]; rfl
              clear HST
              go_wp2_with (first | (go_at_call 82; refine (ref37_frame _ _).mono ?_; rintro e w' ⟨rfl, rfl⟩))
              go_round
              case rel => exact ⟨k + 1, by omega, by go_num, by rw [HN.out], by rw [HN.out]⟩
              case measure => simp [intOf]; omega
            | true =>
              have hpr : 0 ≤ p ∧ p ≤ 5184000 := by simpa [frB] using h2
              obtain ⟨hp1, hp2⟩ := hpr
              cases h3 : (tcL p b a l).2 with
              | true =>
                have HN : Hid (snSt l f b a P (k + 1) = (best, ok)) := by rw [Hid, HST.out, snStep, h2, h3]; rfl
                clear HST
                go_wp2_with (first | (go_at_call 82; refine (ref37_frame _ _).mono ?_; rintro e w' ⟨rfl, rfl⟩) | (go_at_call 58; refine (ref37_CloseU _ _ _ _ _ _ _ _ HA.out hm (suB_at HU.out h2)).mono ?_; rintro e w' ⟨rfl, rfl⟩))
                go_round
                case rel => exact ⟨k + 1, by omega, by go_num, by rw [HN.out], by rw [HN.out]⟩
                case measure => simp [intOf]; omega
              | false =>
                cases ok with
                | false =>
                  have HN : Hid (snSt l f b a P (k + 1) = (p, true)) := by rw [Hid, HST.out, snStep, h2, h3]; rfl
                  clear HST
                  go_wp2_with (first | (go_at_call 82; refine (ref37_frame _ _).mono ?_; rintro e w' ⟨rfl, rfl⟩) | (go_at_call 58; refine (ref37_CloseU _ _ _ _ _ _ _ _ HA.out hm (suB_at HU.out h2)).mono ?_; rintro e w' ⟨rfl, rfl⟩))
                  go_round
                  case rel => exact ⟨k + 1, by omega, by go_num, by rw [HN.out], by rw [HN.out]⟩
                  case measure => simp [intOf]; omega
                | true =>
                  have HN : Hid (snSt l f b a P (k + 1) = if nearer f best p then (p, true) else (best, true)) := by rw [Hid, HST.out, snStep, h2, h3]; rfl
                  clear HST
                  have hz : -9223372036854775807 ≤ p - f ∧ p - f ≤ 9223372036854775807 ∧ -9223372036854775807 ≤ best - f ∧ best - f ≤ 9223372036854775807 := by omega
                  obtain ⟨z1, z2, z3, z4⟩ := hz
                  by_cases h5 : absI (p - f) < absI (best - f)
                  · have HM : Hid (snSt l f b a P (k + 1) = (p, true)) := by rw [Hid, HN.out, nearer, if_pos (by simp [h5])]
                    clear HN
                    go_wp2_with (first | (go_at_call 82; refine (ref37_frame _ _).mono ?_; rintro e w' ⟨rfl, rfl⟩) | (go_at_call 58; refine (ref37_CloseU _ _ _ _ _ _ _ _ HA.out hm (suB_at HU.out h2)).mono ?_; rintro e w' ⟨rfl, rfl⟩) | (go_at_call 83; refine (ref37_far _ _ (by omega) (by omega)).mono ?_; rintro e w' ⟨rfl, rfl⟩))
                    go_round
                    case rel => exact ⟨k + 1, by omega, by go_num, by rw [HM.out], by rw [HM.out]⟩
                    case measure => simp [intOf]; omega
                  · cases h6 : (absI (p - f) == absI (best - f)) with
                    | false =>
                      have HM : Hid (snSt l f b a P (k + 1) = (best, true)) := by
                        have h6' : ¬ absI (p - f) = absI (best - f) := by simpa using h6
                        rw [Hid, HN.out, nearer, if_neg (by simp [h5, h6'])]
                      clear HN
                      go_wp2_with (first | (go_at_call 82; refine (ref37_frame _ _).mono ?_; rintro e w' ⟨rfl, rfl⟩) | (go_at_call 58; refine (ref37_CloseU _ _ _ _ _ _ _ _ HA.out hm (suB_at HU.out h2)).mono ?_; rintro e w' ⟨rfl, rfl⟩) | (go_at_call 83; refine (ref37_far _ _ (by omega) (by omega)).mono ?_; rintro e w' ⟨rfl, rfl⟩))
                      go_round
                      case rel => exact ⟨k + 1, by omega, by go_num, by rw [HM.out], by rw [HM.out]⟩
                      case measure => simp [intOf]; omega
                    | true =>
                      have h6' : absI (p - f) = absI (best - f) := by simpa using h6
                      by_cases h7 : p < best
                      · have HM : Hid (snSt l f b a P (k + 1) = (p, true)) := by rw [Hid, HN.out, nearer, if_pos (by simp [h6', h7])]
                        clear HN h6'
                        go_wp2_with (first | (go_at_call 82; refine (ref37_frame _ _).mono ?_; rintro e w' ⟨rfl, rfl⟩) | (go_at_call 58; refine (ref37_CloseU _ _ _ _ _ _ _ _ HA.out hm (suB_at HU.out h2)).mono ?_; rintro e w' ⟨rfl, rfl⟩) | (go_at_call 83; refine (ref37_far _ _ (by omega) (by omega)).mono ?_; rintro e w' ⟨rfl, rfl⟩))
                        go_round
                        case rel => exact ⟨k + 1, by omega, by go_num, by rw [HM.out], by rw [HM.out]⟩
                        case measure => simp [intOf]; omega
                      · have HM : Hid (snSt l f b a P (k + 1) = (best, true)) := by rw [Hid, HN.out, nearer, if_neg (by simp [h6']; omega)]
                        clear HN h6'
                        go_wp2_with (first | (go_at_call 82; refine (ref37_frame _ _).mono ?_; rintro e w' ⟨rfl, rfl⟩) | (go_at_call 58; refine (ref37_CloseU _ _ _ _ _ _ _ _ HA.out hm (suB_at HU.out h2)).mono ?_; rintro e w' ⟨rfl, rfl⟩) | (go_at_call 83; refine (ref37_far _ _ (by omega) (by omega)).mono ?_; rintro e w' ⟨rfl, rfl⟩))
                        go_round
                        case rel => exact ⟨k + 1, by omega, by go_num, by rw [HM.out], by rw [HM.out]⟩
                        case measure => simp [intOf]; omega
          · obtain rfl : k = P.length := by omega
            have HN : Hid (snSt l f b a P P.length = snL l f b a) := by rw [Hid, HS.out, snSt, List.take_length]
            go_wp2
            go_ret2
            exact ⟨ret_ib HN.out, hbel⟩
end Go.Proofs.YtncmdhkmbmkiiaaDoor
