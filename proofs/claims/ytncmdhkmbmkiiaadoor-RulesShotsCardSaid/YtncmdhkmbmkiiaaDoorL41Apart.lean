/- The walk of captionerlaw41.RulesApart: it answers true, and changes nothing that was there. The table of powers of ten is as the program lays it. -/
import Derived.Test.YtncmdhkmbmkiiaaDoorAw41
namespace Go.Proofs.YtncmdhkmbmkiiaaDoor
open Go.RowKit

theorem rdF_one {w : World} {B : Nat} {A : Option Addr} {r id o m : Int} (h : RdL encF 4 w B A [⟨r, id, o, m⟩]) : ∃ b off, A = some ⟨b, off, none⟩ ∧ w.cell? ⟨b, off, none⟩ = some (.int .u8 r) ∧ w.cell? ⟨b, off + 1, none⟩ = some (.int .i64 id) ∧ w.cell? ⟨b, off + 2, none⟩ = some (.int .i64 o) ∧ w.cell? ⟨b, off + 3, none⟩ = some (.int .i64 m) := by
  obtain ⟨b, off, e, _, hc⟩ := h.at_ (by simp)
  have h0 := hc 0 _ rfl 0 _ rfl
  have h1 := hc 0 _ rfl 1 _ rfl
  have h2 := hc 0 _ rfl 2 _ rfl
  have h3 := hc 0 _ rfl 3 _ rfl
  simp only [Nat.zero_mul, Nat.add_zero] at h0 h1 h2 h3
  exact ⟨b, off, e, h0, h1, h2, h3⟩

theorem btr {a b c : World} (h1 : Below a.heap.size a b) (h2 : Below b.heap.size b c) : Below a.heap.size a c := h1.trans (h2.mono h1.size)
/-- What Apart's Pair gives. -/
def ApP (w : World) (L : List Fd) (n : Nat) (e : Ending) (w' : World) : Prop := ∃ A c, e = .returned (.slice A n c) ∧ RdL encF 4 w' w'.heap.size A L ∧ Below w.heap.size w w'
theorem pair_Ap (aid ai ao bid bi bo gap : Int) (a3 a4 a5 a6 b3 b4 b5 b6 p0 p1 p2 p3 p5 p6 p7 p8 p9 p10 p11 p12 p13 : Value) (L : List Fd) (n : Nat) (w : World) (hg : gap ≤ 9223372036854775807) (hL : pairL aid ai ao bid bi bo gap = L) (hn : L.length = n) :
    Calls Tryd.prog 17 #[.agg #[.int .i64 aid, .int .i64 ai, .int .i64 ao, a3, a4, a5, a6], .agg #[.int .i64 bid, .int .i64 bi, .int .i64 bo, b3, b4, b5, b6], .agg #[p0, p1, p2, p3, .int .i64 gap, p5, p6, p7, p8, p9, p10, p11, p12, p13]] w (ApP w L n) := by
  refine (rules_Pair aid ai ao bid bi bo gap a3 a4 a5 a6 b3 b4 b5 b6 p0 p1 p2 p3 p5 p6 p7 p8 p9 p10 p11 p12 p13 w hg).mono ?_
  rintro e w' ⟨A, c, he, _, hR, hb⟩
  rw [hL] at he hR
  exact ⟨A, c, by rw [he, hn], hR, hb⟩

set_option maxHeartbeats 1000000 in
set_option maxRecDepth 100000 in
theorem law_Apart (a b gap : Int) (w : World) (ht : Tab w) (ha0 : -9223372036854775808 ≤ a) (ha1 : a ≤ 9223372036854775807) (hb0 : -9223372036854775808 ≤ b) (hb1 : b ≤ 9223372036854775807) (hg0 : -9223372036854775808 ≤ gap) (hg1 : gap ≤ 9223372036854775807) :
    Calls Tryd.prog 5 #[.int .i64 a, .int .i64 b, .int .i64 gap] w fun e w' => e = .returned (.bool true) ∧ Below w.heap.size w w' := by
  have HT := Lib.hid ht
  clear ht
  by_cases h1 : a < 1 ∨ 5184000 ≤ a ∨ b < 0 ∨ 5184000 ≤ b
  · have h2 : a < 1 ∨ (1 ≤ a ∧ 5184000 ≤ a) ∨ (1 ≤ a ∧ a < 5184000 ∧ b < 0) ∨ (1 ≤ a ∧ a < 5184000 ∧ 0 ≤ b ∧ 5184000 ≤ b) := by omega
    clear h1
    rcases h2 with h2 | ⟨h2, h3⟩ | ⟨h2, h3, h4⟩ | ⟨h2, h3, h4, h5⟩
    all_goals
      go_enter Tryd.func5, Tryd.ntmps5
      go_wp2_with fail
      refine (awake41 w HT.out).mono ?_
      rintro e w1 ⟨rfl, hb1⟩
      have HB := Lib.hid hb1
      clear hb1
      go_wp2
      go_ret
      exact ⟨rfl, HB.out⟩
  · have h2 : 1 ≤ a := by omega
    have h3 : a < 5184000 := by omega
    have h4 : 0 ≤ b := by omega
    have h5 : b < 5184000 := by omega
    clear h1
    have u1 : usB 0 a = true := by simp [usB]; omega
    have u2 : usB b 5184000 = true := by simp [usB]; omega
    have m1 : min a 5184000 = a := by omega
    have m2 : max 0 b = b := by omega
    by_cases h6 : b < a
    · have HL : Hid (pairL 1 0 a 2 b 5184000 gap = [⟨5, 1, 2, a - b⟩]) := by
        simp only [Hid, pairL, u1, u2, m1, m2, Bool.and_self, if_true]; rw [if_pos (by omega)]
      clear u1 u2 m1 m2
      go_enter Tryd.func5, Tryd.ntmps5
      go_wp2_with fail
      refine (awake41 w HT.out).mono ?_
      rintro e w1 ⟨rfl, hb1⟩
      have HB := Lib.hid hb1
      clear hb1
      go_wp2_with fail
      refine (law41_at _ _ _ _).mono ?_
      rintro e w2 ⟨v2, rfl, hb2⟩
      have HB2 := Lib.hid hb2
      clear hb2
      go_wp2_with fail
      refine (law41_at _ _ _ _).mono ?_
      rintro e w3 ⟨v3, rfl, hb3⟩
      have HB3 := Lib.hid hb3
      clear hb3
      go_wp2_with fail
      refine (pair_Ap _ _ _ _ _ _ _ _ _ _ _ _ _ _ _ _ _ _ _ _ _ _ _ _ _ _ _ _ [⟨5, 1, 2, a - b⟩] 1 _ hg1 HL.out rfl).mono ?_
      rintro e w4 ⟨A4, c4, rfl, hR, hb4⟩
      have HB4 := Lib.hid hb4
      clear hb4
      obtain ⟨bk, off, rfl, c0, _, _, c3⟩ := rdF_one hR
      clear hR
      go_wp2
      go_ret
      exact ⟨rfl, btr (btr (btr HB.out HB2.out) HB3.out) HB4.out⟩
    · by_cases h7 : b - a < gap
      · have HL : Hid (pairL 1 0 a 2 b 5184000 gap = [⟨4, 1, 2, gap - (b - a)⟩]) := by
          simp only [Hid, pairL, u1, u2, m1, m2, Bool.and_self, if_true]; rw [if_neg (by omega), if_pos (by omega)]
        clear u1 u2 m1 m2
        go_enter Tryd.func5, Tryd.ntmps5
        go_wp2_with fail
        refine (awake41 w HT.out).mono ?_
        rintro e w1 ⟨rfl, hb1⟩
        have HB := Lib.hid hb1
        clear hb1
        go_wp2_with fail
        refine (law41_at _ _ _ _).mono ?_
        rintro e w2 ⟨v2, rfl, hb2⟩
        have HB2 := Lib.hid hb2
        clear hb2
        go_wp2_with fail
        refine (law41_at _ _ _ _).mono ?_
        rintro e w3 ⟨v3, rfl, hb3⟩
        have HB3 := Lib.hid hb3
        clear hb3
        go_wp2_with fail
        refine (pair_Ap _ _ _ _ _ _ _ _ _ _ _ _ _ _ _ _ _ _ _ _ _ _ _ _ _ _ _ _ [⟨4, 1, 2, gap - (b - a)⟩] 1 _ hg1 HL.out rfl).mono ?_
        rintro e w4 ⟨A4, c4, rfl, hR, hb4⟩
        have HB4 := Lib.hid hb4
        clear hb4
        obtain ⟨bk, off, rfl, c0, _, _, c3⟩ := rdF_one hR
        clear hR
        go_wp2
        go_ret
        exact ⟨rfl, btr (btr (btr HB.out HB2.out) HB3.out) HB4.out⟩
      · have HL : Hid (pairL 1 0 a 2 b 5184000 gap = []) := by
          simp only [Hid, pairL, u1, u2, m1, m2, Bool.and_self, if_true]; rw [if_neg (by omega), if_neg (by omega)]
        clear u1 u2 m1 m2
        go_enter Tryd.func5, Tryd.ntmps5
        go_wp2_with fail
        refine (awake41 w HT.out).mono ?_
        rintro e w1 ⟨rfl, hb1⟩
        have HB := Lib.hid hb1
        clear hb1
        go_wp2_with fail
        refine (law41_at _ _ _ _).mono ?_
        rintro e w2 ⟨v2, rfl, hb2⟩
        have HB2 := Lib.hid hb2
        clear hb2
        go_wp2_with fail
        refine (law41_at _ _ _ _).mono ?_
        rintro e w3 ⟨v3, rfl, hb3⟩
        have HB3 := Lib.hid hb3
        clear hb3
        go_wp2_with fail
        refine (pair_Ap _ _ _ _ _ _ _ _ _ _ _ _ _ _ _ _ _ _ _ _ _ _ _ _ _ _ _ _ [] 0 _ hg1 HL.out rfl).mono ?_
        rintro e w4 ⟨A4, c4, rfl, hR, hb4⟩
        have HB4 := Lib.hid hb4
        clear hb4
        clear hR
        go_wp2
        go_ret
        exact ⟨rfl, btr (btr (btr HB.out HB2.out) HB3.out) HB4.out⟩
end Go.Proofs.YtncmdhkmbmkiiaaDoor
