/- The contract of layer 41's Shot of the reference: the plain function shotL. Lists of int64 that read as a list. -/
import Derived.Test.YtncmdhkmbmkiiaaDoorRules2
namespace Go.Proofs.YtncmdhkmbmkiiaaDoor
open Go.RowKit

theorem FdRet.empty {w w' : World} (A : Option Addr) (c : Nat) (h : Below w.heap.size w w') : FdRet w [] (.returned (.slice A 0 c)) w' := ⟨A, c, rfl, Nat.zero_le _, RdL.nil, h⟩
theorem own_ne {w : World} {B size : Nat} {e T : TypeId} {v : Value} {n : Nat} {xs : List Value} {b : Nat} {cs : Array Value} {fr : Nat × Nat} (hown : w.ownsRow B e size v n xs) (hb : w.heap[b]? = some (.cells cs T fr)) (hTe : e ≠ T) : v.ownBlock ≠ some b := by
  rcases hown.2 with ⟨rfl, _⟩ | ⟨g, cap, cur, rfl, _, hh, _⟩
  · simp [Value.ownBlock]
  · intro he
    have : g = b := by simpa [Value.ownBlock] using he
    subst this
    rw [hh] at hb
    injection hb with hb
    injection hb with _ ht
    exact hTe ht

set_option maxHeartbeats 1000000 in
set_option maxRecDepth 100000 in
theorem ref41_Shot (A : Option Addr) (c : Nat) (l : List Int) (id i o b a : Int) (a3 a4 a5 a6 p0 p1 p2 p3 p4 p7 p8 p9 p10 p11 p12 p13 : Value) (w : World) (h : RdI w w.heap.size A l) (hm : l.length ≤ 9223372036854775807) :
    Calls Tryd.prog 21 #[.agg #[.int .i64 id, .int .i64 i, .int .i64 o, a3, a4, a5, a6], .slice A l.length c, .agg #[p0, p1, p2, p3, p4, .int .i64 b, .int .i64 a, p7, p8, p9, p10, p11, p12, p13]] w
      (FdRet w (shotL l id i o b a)) := by
  have H := Lib.hid h
  clear h
  cases h1 : usB i o with
  | false =>
    have HR : Hid (shotL l id i o b a = []) := by simp [Hid, shotL, h1]
    go_enter Tryd.func21, Tryd.ntmps21
    go_wp2_with (first | (go_at_call 57; refine (ref41_usable _ _ _).mono ?_; rintro e w' ⟨rfl, rfl⟩))
    go_ret
    rw [HR.out]
    exact FdRet.empty _ _ (bal (bal (bal (bal (Below.refl _ _) _) _) _) _)
  | true =>
    have hr : 0 ≤ i ∧ i < o ∧ o ≤ 5184000 := by simpa [usB] using h1
    obtain ⟨hi0, hio, ho⟩ := hr
    obtain ⟨i0, hi, hz0, hz1, hz2⟩ := info_parts fd_info
    have HS : Hid (shTo l id i o b a 2 = shotL l id i o b a) := shTo_all l id i o b a h1
    go_enter Tryd.func21, Tryd.ntmps21
    go_wp2_with (first | (go_at_call 57; refine (ref41_usable _ _ _).mono ?_; rintro e w' ⟨rfl, rfl⟩))
    clear h1
    generalize hW : (((((w.alloc (.cells #[.int .i64 id, .int .i64 i, .int .i64 o, a3, a4, a5, a6] 27)).alloc (.cells #[p0, p1, p2, p3, p4, .int .i64 b, .int .i64 a, p7, p8, p9, p10, p11, p12, p13] 29)).alloc (.cells #[] 35)).alloc (.cells #[.int .i64 i, .int .i64 o] 23)).alloc (.cells #[.int .i64 i, .int .i64 o] 2)) = W
    have hWs : W.heap.size = w.heap.size + 5 := by rw [← hW]; simp
    have hWb : Below w.heap.size w W := by rw [← hW]; exact bal (bal (bal (bal (bal (Below.refl _ _) _) _) _) _) _
    have hW4 : W.heap[w.heap.size + 4]? = some (.cells #[.int .i64 i, .int .i64 o] 2 (0, 0)) := by rw [← hW]; exact heap_at_new _ _ _ (by simp)
    have hWo : W.ownsRow (w.heap.size + 2) 35 4 (.slice (some ⟨w.heap.size + 2, 0, none⟩) 0 0) 0 [] := by
      refine ⟨rfl, .inr ⟨w.heap.size + 2, 0, #[], rfl, Nat.le_refl _, ?_, Nat.le_refl _, Nat.zero_le _, rfl, rfl⟩⟩
      rw [← hW, Below.heap_alloc _ _ _ (by simp), Below.heap_alloc _ _ _ (by simp)]
      exact heap_at_new _ _ _ (by simp)
    have e0 : W.cell? ⟨w.heap.size, 0, none⟩ = some (.int .i64 id) := by rw [← hW]; clear hW; go_simp
    have e1 : W.cell? ⟨w.heap.size + 1, 5, none⟩ = some (.int .i64 b) := by rw [← hW]; clear hW; go_simp
    have e2 : W.cell? ⟨w.heap.size + 1, 6, none⟩ = some (.int .i64 a) := by rw [← hW]; clear hW; go_simp
    clear hW
    have E := Lib.hid (And.intro e0 (And.intro e1 e2))
    have HWs := Lib.hid hWs
    have HW4 := Lib.hid hW4
    have HWo := Lib.hid hWo
    clear e0 e1 e2 hWs hW4 hWo
    go_loopw [7, 9, 10, 11, 12, 13, 14, 29] (fun v _ _ _ _ _ _ s wr => ∃ k : Nat, k ≤ 2 ∧ s = .int .i64 k ∧ wr.ownsRow (w.heap.size + 2) 35 4 v (shTo l id i o b a k).length ((shTo l id i o b a k).flatMap encF) ∧ Below (w.heap.size + 2) W wr ∧ wr.heap[w.heap.size + 4]? = some (.cells #[.int .i64 i, .int .i64 o] 2 (0, 0))) (fun _ _ _ _ _ _ _ s _ => 2 - (intOf s).toNat)
    case atStart => exact ⟨0, by omega, rfl, HWo.out, Below.refl _ _, HW4.out⟩
    case round =>
      obtain ⟨k, hk, rfl, hown, hbel, h4⟩ := hrel
      have H4 := Lib.hid h4
      clear h4
      have hsz := hbel.size
      have hws := HWs.out
      by_cases hlt : k < 2
      · have e0 := (hbel.cell (p := ⟨w.heap.size, 0, none⟩) (by simp)).trans E.out.1
        have e1 := (hbel.cell (p := ⟨w.heap.size + 1, 5, none⟩) (by simp)).trans E.out.2.1
        have e2 := (hbel.cell (p := ⟨w.heap.size + 1, 6, none⟩) (by simp)).trans E.out.2.2
        have HA := Lib.hid ((H.out.below hWb).below (hbel.mono (by omega)))
        have HA' := Lib.hid (HA.out.more (show w.heap.size ≤ wr.heap.size by have := hWb.size; omega))
        have HN := Lib.hid (shTo_succ l id i o b a k hlt)
        have HL := Lib.hid (shTo_len l id i o b a k)
        obtain ⟨f, hx, hf0, hf1, hfe⟩ : ∃ f, wr.cell? ⟨w.heap.size + 1 + 1 + 1 + 1, k, none⟩ = some (.int .i64 f) ∧ 0 ≤ f ∧ f ≤ 5184000 ∧ [i, o].getD k 0 = f := by
          match k, hlt with
          | 0, _ => exact ⟨i, (cell_of_row wr _ 0 _ _ _ H4.out).trans rfl, by omega, by omega, rfl⟩
          | 1, _ => exact ⟨o, (cell_of_row wr _ 1 _ _ _ H4.out).trans rfl, by omega, by omega, rfl⟩
        rw [hfe] at HN
        have hso := snL_ok l f b a
        obtain ⟨hs0, hs1⟩ := hso
        clear hfe hws
        cases h1 : (clL l f b a).2 with
        | false =>
          rw [shotOne_no h1, List.append_nil] at HN
          go_wp2_with (first | (go_at_call 58; refine (ref37_Close _ _ _ _ _ _ _ _ HA.out hm).mono ?_; rintro e w' ⟨rfl, rfl⟩))
          go_roundw
          case rel => exact ⟨k + 1, by omega, by go_num, by rw [HN.out]; exact hown, hbel, H4.out⟩
          case measure => simp [intOf]; omega
        | true =>
          cases h2 : (snL l f b a).2 with
          | false =>
            rw [shotOne_one h1 h2] at HN
            go_wp2_with (first | (go_at_call 58; refine (ref37_Close _ _ _ _ _ _ _ _ HA.out hm).mono ?_; rintro e w' ⟨rfl, rfl⟩) | (go_at_call 59; refine (ref37_Snap _ _ _ _ _ _ _ HA'.out hm).mono ?_))
            rintro e w1 ⟨rfl, hb1⟩
            have hz1' := hb1.size
            have e0' := (hb1.cell (p := ⟨w.heap.size, 0, none⟩) (by have := HWs.out; simp; omega)).trans e0
            have hown1 := own_below hown hb1
            clear e0 e1 e2
            generalize (clL l f b a).1 = cl at HN ⊢
            go_wp2_with (at_builtin; refine wpList_append_own _ rfl _ _ 32 rfl (w.heap.size + 2) 35 i0 _ 4 32 Tryd.underlying32 hi hz0 hz1 hz2 rfl (by decide) _ _ _ rfl (hown1.alloc _) ⟨w1.heap.size, 0, none⟩ 1 1 [.int .u8 6, .int .i64 id, .int .i64 cl, .int .i64 1] rfl rfl ?c1 ?c2 ?c3 ?c4 ?c5 ?_)
            case c1 => exact new_cells w1 _ _
            case c2 => intro u hu; simp at hu; rcases hu with rfl | rfl | rfl | rfl <;> rfl
            case c3 => have := HL.out; unfold maxLen; omega
            case c4 => have := HL.out; omega
            case c5 => have := HWs.out; simp; omega
            intro v' w2 hown' hgrow _
            have hw5 := HWs.out
            have hb2 : Below (w.heap.size + 2) W w2 := ((hbel.trans (hb1.mono (by omega))).alloc (by omega) _).grown hgrow (by simp; omega) (fun g hg => (hown1.lt g hg).1)
            have h42 : w2.heap[w.heap.size + 4]? = some (.cells #[.int .i64 i, .int .i64 o] 2 (0, 0)) := by
              have h41 := (hb1.block (w.heap.size + 4) (by omega)).trans H4.out
              rw [hgrow.block (w.heap.size + 4) (by simp; omega) (fun e => own_ne hown1 h41 (by decide) e.symm), Below.heap_alloc w1 _ _ (by omega)]
              exact h41
            clear hw5
            go_wp2
            go_roundw
            case rel => exact ⟨k + 1, by omega, by go_num, own_snoc HN.out rfl hown', hb2, h42⟩
            case measure => simp [intOf]; omega
          | true =>
            rw [shotOne_far h1 h2] at HN
            go_wp2_with (first | (go_at_call 58; refine (ref37_Close _ _ _ _ _ _ _ _ HA.out hm).mono ?_; rintro e w' ⟨rfl, rfl⟩) | (go_at_call 59; refine (ref37_Snap _ _ _ _ _ _ _ HA'.out hm).mono ?_))
            rintro e w1 ⟨rfl, hb1⟩
            have hz1' := hb1.size
            have e0' := (hb1.cell (p := ⟨w.heap.size, 0, none⟩) (by have := HWs.out; simp; omega)).trans e0
            have hown1 := own_below hown hb1
            clear e0 e1 e2
            generalize (clL l f b a).1 = cl at HN ⊢
            generalize (snL l f b a).1 = sn at HN hs0 hs1 ⊢
            obtain ⟨am, ham⟩ : ∃ am, absI (sn - f) = am := ⟨_, rfl⟩
            have HAM := Lib.hid ham
            rw [ham] at HN
            clear ham
            by_cases hmx : f - sn < sn - f
            · obtain rfl : sn - f = am := by have := HAM.out; unfold absI at this; omega
              go_wp2_with (at_builtin; refine wpList_append_own _ rfl _ _ 32 rfl (w.heap.size + 2) 35 i0 _ 4 32 Tryd.underlying32 hi hz0 hz1 hz2 rfl (by decide) _ _ _ rfl (hown1.alloc _) ⟨w1.heap.size, 0, none⟩ 1 1 [.int .u8 6, .int .i64 id, .int .i64 cl, .int .i64 (sn - f)] rfl rfl ?c1 ?c2 ?c3 ?c4 ?c5 ?_)
              case c1 => exact new_cells w1 _ _
              case c2 => intro u hu; simp at hu; rcases hu with rfl | rfl | rfl | rfl <;> rfl
              case c3 => have := HL.out; unfold maxLen; omega
              case c4 => have := HL.out; omega
              case c5 => have := HWs.out; simp; omega
              intro v' w2 hown' hgrow _
              have hw5 := HWs.out
              have hb2 : Below (w.heap.size + 2) W w2 := ((hbel.trans (hb1.mono (by omega))).alloc (by omega) _).grown hgrow (by simp; omega) (fun g hg => (hown1.lt g hg).1)
              have h42 : w2.heap[w.heap.size + 4]? = some (.cells #[.int .i64 i, .int .i64 o] 2 (0, 0)) := by
                have h41 := (hb1.block (w.heap.size + 4) (by omega)).trans H4.out
                rw [hgrow.block (w.heap.size + 4) (by simp; omega) (fun e => own_ne hown1 h41 (by decide) e.symm), Below.heap_alloc w1 _ _ (by omega)]
                exact h41
              clear hw5
              go_wp2
              go_roundw
              case rel => exact ⟨k + 1, by omega, by go_num, own_snoc HN.out rfl hown', hb2, h42⟩
              case measure => simp [intOf]; omega
            · obtain rfl : f - sn = am := by have := HAM.out; unfold absI at this; omega
              go_wp2_with (at_builtin; refine wpList_append_own _ rfl _ _ 32 rfl (w.heap.size + 2) 35 i0 _ 4 32 Tryd.underlying32 hi hz0 hz1 hz2 rfl (by decide) _ _ _ rfl (hown1.alloc _) ⟨w1.heap.size, 0, none⟩ 1 1 [.int .u8 6, .int .i64 id, .int .i64 cl, .int .i64 (f - sn)] rfl rfl ?c1 ?c2 ?c3 ?c4 ?c5 ?_)
              case c1 => exact new_cells w1 _ _
              case c2 => intro u hu; simp at hu; rcases hu with rfl | rfl | rfl | rfl <;> rfl
              case c3 => have := HL.out; unfold maxLen; omega
              case c4 => have := HL.out; omega
              case c5 => have := HWs.out; simp; omega
              intro v' w2 hown' hgrow _
              have hw5 := HWs.out
              have hb2 : Below (w.heap.size + 2) W w2 := ((hbel.trans (hb1.mono (by omega))).alloc (by omega) _).grown hgrow (by simp; omega) (fun g hg => (hown1.lt g hg).1)
              have h42 : w2.heap[w.heap.size + 4]? = some (.cells #[.int .i64 i, .int .i64 o] 2 (0, 0)) := by
                have h41 := (hb1.block (w.heap.size + 4) (by omega)).trans H4.out
                rw [hgrow.block (w.heap.size + 4) (by simp; omega) (fun e => own_ne hown1 h41 (by decide) e.symm), Below.heap_alloc w1 _ _ (by omega)]
                exact h41
              clear hw5
              go_wp2
              go_roundw
              case rel => exact ⟨k + 1, by omega, by go_num, own_snoc HN.out rfl hown', hb2, h42⟩
              case measure => simp [intOf]; omega
      · obtain rfl : k = 2 := by omega
        go_wp2
        go_ret
        rw [← HS.out]
        exact fdRet_own (own_wide hown (by omega)) (hWb.trans (hbel.mono (by omega)))
end Go.Proofs.YtncmdhkmbmkiiaaDoor
