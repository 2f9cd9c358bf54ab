/- Contracts of layer 41's Shot, of the program and of the reference: the plain function shotL. Lists of int64 that read as a list. -/
import Derived.Test.YtncmdhkmbmkiiaaDoorRules1
import Derived.Test.YtncmdhkmbmkiiaaDoorShots4
import Derived.Test.YtncmdhkmbmkiiaaDoorShots5
namespace Go.Proofs.YtncmdhkmbmkiiaaDoor
open Go.RowKit

theorem fd_info : (Tryd.prog.info? 35).map (fun i => (i.zero, i.size, i.bytes)) = some (some (.agg #[.int .u8 0, .int .i64 0, .int .i64 0, .int .i64 0]), 4, 32) := by kernel_rfl
theorem encF_len (f : Fd) : (encF f).length = 4 := rfl

/-- The findings after k of the two boundaries. -/
def shTo (l : List Int) (id i o b a : Int) (k : Nat) : List Fd := ([i, o].take k).flatMap fun f => shotOne l id f b a
theorem shTo_len (l : List Int) (id i o b a : Int) (k : Nat) : (shTo l id i o b a k).length ≤ 2 := by
  have h1 : ∀ f, (shotOne l id f b a).length ≤ 1 := by intro f; unfold shotOne; split <;> simp
  have h2 := h1 i
  have h3 := h1 o
  match k with
  | 0 => simp [shTo]
  | 1 => simp [shTo]; omega
  | k + 2 => simp [shTo]; omega
theorem shTo_succ (l : List Int) (id i o b a : Int) (k : Nat) (h : k < 2) : shTo l id i o b a (k + 1) = shTo l id i o b a k ++ shotOne l id ([i, o].getD k 0) b a := by
  match k, h with
  | 0, _ => simp [shTo]
  | 1, _ => simp [shTo]
theorem shTo_all (l : List Int) (id i o b a : Int) (h : usB i o = true) : shTo l id i o b a 2 = shotL l id i o b a := by simp [shTo, shotL, h]

theorem fdRet_own {w w' : World} {v : Value} {L : List Fd} (hown : w'.ownsRow w.heap.size 35 4 v L.length (L.flatMap encF)) (hb : Below w.heap.size w w') : FdRet w L (.returned v) w' := by
  obtain ⟨A, c, rfl⟩ := own_form hown
  refine ⟨A, c, rfl, ?_, RdL.of_own hown (flat_at encF 4 encF_len L) rfl, hb⟩
  rcases hown.2 with ⟨hv, h0⟩ | ⟨g, cap, cur, hv, _, _, hc, _⟩
  · omega
  · injection hv with _ _ e3; omega

theorem snL_ok (l : List Int) (f b a : Int) : 0 ≤ (snL l f b a).1 ∧ (snL l f b a).1 ≤ 5184000 := by
  unfold snL
  split
  · have := snSt_ok l f b a (snPlaces l f b a) _ (Nat.le_refl _)
    rwa [snSt, List.take_length] at this
  · simp
theorem shotOne_no {l : List Int} {id f b a : Int} (h : (clL l f b a).2 = false) : shotOne l id f b a = [] := by simp [shotOne, h]
theorem shotOne_one {l : List Int} {id f b a : Int} (h : (clL l f b a).2 = true) (h' : (snL l f b a).2 = false) : shotOne l id f b a = [⟨6, id, (clL l f b a).1, 1⟩] := by simp [shotOne, h, h']
theorem shotOne_far {l : List Int} {id f b a : Int} (h : (clL l f b a).2 = true) (h' : (snL l f b a).2 = true) : shotOne l id f b a = [⟨6, id, (clL l f b a).1, absI ((snL l f b a).1 - f)⟩] := by simp [shotOne, h, h']

/-- One finding more in a row of the call's own. -/
theorem own_snoc {w : World} {base : Nat} {v : Value} {n : Nat} {L M : List Fd} {r id o m : Int} (hM : M = L ++ [⟨r, id, o, m⟩]) (hn : n = L.length) (h : w.ownsRow base 35 4 v (n + 1) (L.flatMap encF ++ [.int .u8 r, .int .i64 id, .int .i64 o, .int .i64 m])) :
    w.ownsRow base 35 4 v M.length (M.flatMap encF) := by
  subst hM hn
  rw [List.length_append, List.flatMap_append]
  simpa [encF] using h

set_option maxHeartbeats 1000000 in
set_option maxRecDepth 100000 in
theorem rules_Shot (A : Option Addr) (c : Nat) (l : List Int) (id i o b a : Int) (a3 a4 a5 a6 p0 p1 p2 p3 p4 p7 p8 p9 p10 p11 p12 p13 : Value) (w : World) (h : RdI w w.heap.size A l) (hm : l.length ≤ 9223372036854775807) :
    Calls Tryd.prog 20 #[.agg #[.int .i64 id, .int .i64 i, .int .i64 o, a3, a4, a5, a6], .slice A l.length c, .agg #[p0, p1, p2, p3, p4, .int .i64 b, .int .i64 a, p7, p8, p9, p10, p11, p12, p13]] w
      (FdRet w (shotL l id i o b a)) := by
  have H := Lib.hid h
  clear h
  cases h1 : usB i o with
  | false =>
    have HR : Hid (shotL l id i o b a = []) := by simp [Hid, shotL, h1]
    go_enter Tryd.func20, Tryd.ntmps20
    go_wp2_with (first | (go_at_call 56; refine (rules_usable _ _ _).mono ?_; rintro e w' ⟨rfl, rfl⟩))
    go_ret
    rw [HR.out]
    exact FdRet.none_ (bal (bal (bal (Below.refl _ _) _) _) _)
  | true =>
    have hr : 0 ≤ i ∧ i < o ∧ o ≤ 5184000 := by simpa [usB] using h1
    obtain ⟨hi0, hio, ho⟩ := hr
    obtain ⟨i0, hi, hz0, hz1, hz2⟩ := info_parts fd_info
    have HS : Hid (shTo l id i o b a 2 = shotL l id i o b a) := shTo_all l id i o b a h1
    have x0 : ∀ w, (Instr.index 93 (.agg #[.int .i64 i, .int .i64 o]) (.int .i64 0)).run Tryd.prog w = .ok (.int .i64 i) w := fun _ => by kernel_rfl
    have x1 : ∀ w, (Instr.index 93 (.agg #[.int .i64 i, .int .i64 o]) (.int .i64 1)).run Tryd.prog w = .ok (.int .i64 o) w := fun _ => by kernel_rfl
    go_enter Tryd.func20, Tryd.ntmps20
    go_wp2_with (first | (go_at_call 56; refine (rules_usable _ _ _).mono ?_; rintro e w' ⟨rfl, rfl⟩))
    clear h1
    generalize hW : (((w.alloc (.cells #[.int .i64 id, .int .i64 i, .int .i64 o, a3, a4, a5, a6] 27)).alloc (.cells #[p0, p1, p2, p3, p4, .int .i64 b, .int .i64 a, p7, p8, p9, p10, p11, p12, p13] 29)).alloc (.cells #[.int .i64 i, .int .i64 o] 23)) = W
    have hWs : W.heap.size = w.heap.size + 3 := by rw [← hW]; simp
    have hWb : Below w.heap.size w W := by rw [← hW]; exact bal (bal (bal (Below.refl _ _) _) _) _
    have e0 : W.cell? ⟨w.heap.size, 0, none⟩ = some (.int .i64 id) := by rw [← hW]; clear hW; go_simp
    have e1 : W.cell? ⟨w.heap.size + 1, 5, none⟩ = some (.int .i64 b) := by rw [← hW]; clear hW; go_simp
    have e2 : W.cell? ⟨w.heap.size + 1, 6, none⟩ = some (.int .i64 a) := by rw [← hW]; clear hW; go_simp
    clear hW
    have E := Lib.hid (And.intro e0 (And.intro e1 e2))
    have HWs := Lib.hid hWs
    clear e0 e1 e2 hWs
    go_loopw [7, 9, 10, 11, 12, 13, 14, 26] (fun v _ _ _ _ _ _ s wr => ∃ k : Nat, k ≤ 2 ∧ s = .int .i64 k ∧ wr.ownsRow W.heap.size 35 4 v (shTo l id i o b a k).length ((shTo l id i o b a k).flatMap encF) ∧ Below W.heap.size W wr) (fun _ _ _ _ _ _ _ s _ => 2 - (intOf s).toNat)
    case atStart => exact ⟨0, by omega, rfl, World.ownsRow_nil _ _ _ _, Below.refl _ _⟩
    case round =>
      obtain ⟨k, hk, rfl, hown, hbel⟩ := hrel
      have hsz := hbel.size
      have hws := HWs.out
      by_cases hlt : k < 2
      · have e0 := (hbel.cell (p := ⟨w.heap.size, 0, none⟩) (by simp; omega)).trans E.out.1
        have e1 := (hbel.cell (p := ⟨w.heap.size + 1, 5, none⟩) (by simp; omega)).trans E.out.2.1
        have e2 := (hbel.cell (p := ⟨w.heap.size + 1, 6, none⟩) (by simp; omega)).trans E.out.2.2
        have HA := Lib.hid ((H.out.below hWb).below (hbel.mono hWb.size))
        have HA' := Lib.hid (HA.out.more (show w.heap.size ≤ wr.heap.size by have := hWb.size; omega))
        have HN := Lib.hid (shTo_succ l id i o b a k hlt)
        have HL := Lib.hid (shTo_len l id i o b a k)
        obtain ⟨f, hx, hf0, hf1, hfe⟩ : ∃ f, (∀ w, (Instr.index 93 (.agg #[.int .i64 i, .int .i64 o]) (.int .i64 (k : Int))).run Tryd.prog w = .ok (.int .i64 f) w) ∧ 0 ≤ f ∧ f ≤ 5184000 ∧ [i, o].getD k 0 = f := by
          match k, hlt with
          | 0, _ => exact ⟨i, x0, by omega, by omega, rfl⟩
          | 1, _ => exact ⟨o, x1, by omega, by omega, rfl⟩
        rw [hfe] at HN
        have hso := snL_ok l f b a
        obtain ⟨hs0, hs1⟩ := hso
        clear x0 x1 hfe hws
        cases h1 : (clL l f b a).2 with
        | false =>
          rw [shotOne_no h1, List.append_nil] at HN
          go_wp2_with (first | (go_at_call 23; refine (shots_Close _ _ _ _ _ _ _ _ HA.out hm).mono ?_; rintro e w' ⟨rfl, rfl⟩))
          go_roundw
          case rel => exact ⟨k + 1, by omega, by go_num, by rw [HN.out]; exact hown, hbel⟩
          case measure => simp [intOf]; omega
        | true =>
          cases h2 : (snL l f b a).2 with
          | false =>
            rw [shotOne_one h1 h2] at HN
            go_wp2_with (first | (go_at_call 23; refine (shots_Close _ _ _ _ _ _ _ _ HA.out hm).mono ?_; rintro e w' ⟨rfl, rfl⟩) | (go_at_call 24; refine (shots_Snap _ _ _ _ _ _ _ HA'.out hm).mono ?_))
            rintro e w1 ⟨rfl, hb1⟩
            have hz1' := hb1.size
            have e0' := (hb1.cell (p := ⟨w.heap.size, 0, none⟩) (by have := HWs.out; simp; omega)).trans e0
            have hown1 := own_below hown hb1
            clear e0 e1 e2
            generalize (clL l f b a).1 = cl at HN ⊢
            go_wp2_with (at_builtin; refine wpList_append_own _ rfl _ _ 32 rfl W.heap.size 35 i0 _ 4 32 Tryd.underlying32 hi hz0 hz1 hz2 rfl (by decide) _ _ _ rfl (hown1.alloc _) ⟨w1.heap.size, 0, none⟩ 1 1 [.int .u8 6, .int .i64 id, .int .i64 cl, .int .i64 1] rfl rfl ?c1 ?c2 ?c3 ?c4 ?c5 ?_)
            case c1 => exact new_cells w1 _ _
            case c2 => intro u hu; simp at hu; rcases hu with rfl | rfl | rfl | rfl <;> rfl
            case c3 => have := HL.out; unfold maxLen; omega
            case c4 => have := HL.out; omega
            case c5 => simp; omega
            intro v' w2 hown' hgrow _
            have hb2 : Below W.heap.size W w2 := ((hbel.trans (hb1.mono hsz)).alloc (by omega) _).grown hgrow (by simp; omega) (fun g hg => (hown1.lt g hg).1)
            go_wp2
            go_roundw
            case rel => exact ⟨k + 1, by omega, by go_num, own_snoc HN.out rfl hown', hb2⟩
            case measure => simp [intOf]; omega
          | true =>
            rw [shotOne_far h1 h2] at HN
            go_wp2_with (first | (go_at_call 23; refine (shots_Close _ _ _ _ _ _ _ _ HA.out hm).mono ?_; rintro e w' ⟨rfl, rfl⟩) | (go_at_call 24; refine (shots_Snap _ _ _ _ _ _ _ HA'.out hm).mono ?_))
            rintro e w1 ⟨rfl, hb1⟩
            have hz1' := hb1.size
            have e0' := (hb1.cell (p := ⟨w.heap.size, 0, none⟩) (by have := HWs.out; simp; omega)).trans e0
            have hown1 := own_below hown hb1
            clear e0 e1 e2
            generalize (clL l f b a).1 = cl at HN ⊢
            generalize (snL l f b a).1 = sn at HN hs0 hs1 ⊢
            obtain ⟨am, ham⟩ : ∃ am, absI (sn - f) = am := ⟨_, rfl⟩
            have HAM := Lib.hid ham
            rw [ham] at HN
            clear ham
            by_cases hmx : sn - f < f - sn
            · obtain rfl : f - sn = am := by have := HAM.out; unfold absI at this; omega
              go_wp2_with (at_builtin; refine wpList_append_own _ rfl _ _ 32 rfl W.heap.size 35 i0 _ 4 32 Tryd.underlying32 hi hz0 hz1 hz2 rfl (by decide) _ _ _ rfl (hown1.alloc _) ⟨w1.heap.size, 0, none⟩ 1 1 [.int .u8 6, .int .i64 id, .int .i64 cl, .int .i64 (f - sn)] rfl rfl ?c1 ?c2 ?c3 ?c4 ?c5 ?_)
              case c1 => exact new_cells w1 _ _
              case c2 => intro u hu; simp at hu; rcases hu with rfl | rfl | rfl | rfl <;> rfl
              case c3 => have := HL.out; unfold maxLen; omega
              case c4 => have := HL.out; omega
              case c5 => simp; omega
              intro v' w2 hown' hgrow _
              have hb2 : Below W.heap.size W w2 := ((hbel.trans (hb1.mono hsz)).alloc (by omega) _).grown hgrow (by simp; omega) (fun g hg => (hown1.lt g hg).1)
              go_wp2
              go_roundw
              case rel => exact ⟨k + 1, by omega, by go_num, own_snoc HN.out rfl hown', hb2⟩
              case measure => simp [intOf]; omega
            · obtain rfl : sn - f = am := by have := HAM.out; unfold absI at this; omega
              go_wp2_with (at_builtin; refine wpList_append_own _ rfl _ _ 32 rfl W.heap.size 35 i0 _ 4 32 Tryd.underlying32 hi hz0 hz1 hz2 rfl (by decide) _ _ _ rfl (hown1.alloc _) ⟨w1.heap.size, 0, none⟩ 1 1 [.int .u8 6, .int .i64 id, .int .i64 cl, .int .i64 (sn - f)] rfl rfl ?c1 ?c2 ?c3 ?c4 ?c5 ?_)
              case c1 => exact new_cells w1 _ _
              case c2 => intro u hu; simp at hu; rcases hu with rfl | rfl | rfl | rfl <;> rfl
              case c3 => have := HL.out; unfold maxLen; omega
              case c4 => have := HL.out; omega
              case c5 => simp; omega
              intro v' w2 hown' hgrow _
              have hb2 : Below W.heap.size W w2 := ((hbel.trans (hb1.mono hsz)).alloc (by omega) _).grown hgrow (by simp; omega) (fun g hg => (hown1.lt g hg).1)
              go_wp2
              go_roundw
              case rel => exact ⟨k + 1, by omega, by go_num, own_snoc HN.out rfl hown', hb2⟩
              case measure => simp [intOf]; omega
      · obtain rfl : k = 2 := by omega
        go_wp2
        go_ret
        rw [← HS.out]
        exact fdRet_own (own_wide hown (by omega)) (hWb.trans (hbel.mono hWb.size))
end Go.Proofs.YtncmdhkmbmkiiaaDoor
