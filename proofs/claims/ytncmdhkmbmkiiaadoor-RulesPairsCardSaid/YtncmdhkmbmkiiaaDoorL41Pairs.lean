/- The walk of captionerlaw41.RulesPairs: it answers true, and changes nothing that was there. The table of powers of ten is as the program lays it. -/
import Derived.Test.YtncmdhkmbmkiiaaDoorAw41
import Derived.Test.YtncmdhkmbmkiiaaDoorL41Apart
namespace Go.Proofs.YtncmdhkmbmkiiaaDoor
open Go.RowKit
attribute [local go_sem ↓] Go.wp_at_zero Go.wp_at_succ

section
variable (aid ai ao bid bi bo g sb sa : Int) (a3 a4 a5 a6 b3 b4 b5 b6 p0 p1 p2 p3 p7 p8 p9 p10 p11 p12 p13 : Value)
/-- The three boxes of RulesPairs, the table, and slices that read as findings. -/
def PrP (w : World) (rs : List (Option Addr × List Fd)) (W : World) : Prop := (Below w.heap.size w W ∧ Tab W) ∧ (W.heap[w.heap.size]? = some (.cells #[.int .i64 aid, .int .i64 ai, .int .i64 ao, a3, a4, a5, a6] 27 (0, 0)) ∧ W.heap[w.heap.size + 1]? = some (.cells #[.int .i64 bid, .int .i64 bi, .int .i64 bo, b3, b4, b5, b6] 27 (0, 0)) ∧ W.heap[w.heap.size + 1 + 1]? = some (.cells #[p0, p1, p2, p3, .int .i64 g, .int .i64 sb, .int .i64 sa, p7, p8, p9, p10, p11, p12, p13] 29 (0, 0))) ∧ ∀ p ∈ rs, RdL encF 4 W W.heap.size p.1 p.2
end
section
variable {aid ai ao bid bi bo g sb sa : Int} {a3 a4 a5 a6 b3 b4 b5 b6 p0 p1 p2 p3 p7 p8 p9 p10 p11 p12 p13 : Value} {w W W' : World} {rs : List (Option Addr × List Fd)}
theorem PrP.lt (h : PrP aid ai ao bid bi bo g sb sa a3 a4 a5 a6 b3 b4 b5 b6 p0 p1 p2 p3 p7 p8 p9 p10 p11 p12 p13 w rs W) : w.heap.size + 2 < W.heap.size := by
  rcases Nat.lt_or_ge (w.heap.size + 2) W.heap.size with h1 | h1
  · exact h1
  · have h := h.2.1.2.2; rw [Array.getElem?_eq_none (by omega)] at h; cases h
theorem PrP.below (h : PrP aid ai ao bid bi bo g sb sa a3 a4 a5 a6 b3 b4 b5 b6 p0 p1 p2 p3 p7 p8 p9 p10 p11 p12 p13 w rs W) (hb : Below W.heap.size W W') : PrP aid ai ao bid bi bo g sb sa a3 a4 a5 a6 b3 b4 b5 b6 p0 p1 p2 p3 p7 p8 p9 p10 p11 p12 p13 w rs W' := by
  have hl := h.lt
  exact ⟨⟨h.1.1.trans (hb.mono (by omega)), tab_below h.1.2 hb⟩, ⟨(hb.block _ (by omega)).trans h.2.1.1, (hb.block _ (by omega)).trans h.2.1.2.1, (hb.block _ (by omega)).trans h.2.1.2.2⟩, fun p hp => ((h.2.2 p hp).below hb).more hb.size⟩
theorem PrP.more {A : Option Addr} {L : List Fd} (h : PrP aid ai ao bid bi bo g sb sa a3 a4 a5 a6 b3 b4 b5 b6 p0 p1 p2 p3 p7 p8 p9 p10 p11 p12 p13 w rs W) (hb : Below W.heap.size W W') (hR : RdL encF 4 W' W'.heap.size A L) : PrP aid ai ao bid bi bo g sb sa a3 a4 a5 a6 b3 b4 b5 b6 p0 p1 p2 p3 p7 p8 p9 p10 p11 p12 p13 w ((A, L) :: rs) W' := by
  have h := h.below hb
  refine ⟨h.1, h.2.1, fun p hp => ?_⟩
  rcases List.mem_cons.1 hp with rfl | hp
  · exact hR
  · exact h.2.2 p hp
theorem PrP.cells (h : PrP aid ai ao bid bi bo g sb sa a3 a4 a5 a6 b3 b4 b5 b6 p0 p1 p2 p3 p7 p8 p9 p10 p11 p12 p13 w rs W) : W.cell? ⟨w.heap.size, 0, none⟩ = some (.int .i64 aid) ∧ W.cell? ⟨w.heap.size, 1, none⟩ = some (.int .i64 ai) ∧ W.cell? ⟨w.heap.size, 2, none⟩ = some (.int .i64 ao) ∧ W.cell? ⟨w.heap.size, 3, none⟩ = some a3 ∧ W.cell? ⟨w.heap.size, 4, none⟩ = some a4 ∧ W.cell? ⟨w.heap.size, 5, none⟩ = some a5 ∧ W.cell? ⟨w.heap.size, 6, none⟩ = some a6 ∧ W.cell? ⟨w.heap.size + 1, 0, none⟩ = some (.int .i64 bid) ∧ W.cell? ⟨w.heap.size + 1, 1, none⟩ = some (.int .i64 bi) ∧ W.cell? ⟨w.heap.size + 1, 2, none⟩ = some (.int .i64 bo) ∧ W.cell? ⟨w.heap.size + 1, 3, none⟩ = some b3 ∧ W.cell? ⟨w.heap.size + 1, 4, none⟩ = some b4 ∧ W.cell? ⟨w.heap.size + 1, 5, none⟩ = some b5 ∧ W.cell? ⟨w.heap.size + 1, 6, none⟩ = some b6 ∧ W.cell? ⟨w.heap.size + 1 + 1, 0, none⟩ = some p0 ∧ W.cell? ⟨w.heap.size + 1 + 1, 1, none⟩ = some p1 ∧ W.cell? ⟨w.heap.size + 1 + 1, 2, none⟩ = some p2 ∧ W.cell? ⟨w.heap.size + 1 + 1, 3, none⟩ = some p3 ∧ W.cell? ⟨w.heap.size + 1 + 1, 4, none⟩ = some (.int .i64 g) ∧ W.cell? ⟨w.heap.size + 1 + 1, 5, none⟩ = some (.int .i64 sb) ∧ W.cell? ⟨w.heap.size + 1 + 1, 6, none⟩ = some (.int .i64 sa) ∧ W.cell? ⟨w.heap.size + 1 + 1, 7, none⟩ = some p7 ∧ W.cell? ⟨w.heap.size + 1 + 1, 8, none⟩ = some p8 ∧ W.cell? ⟨w.heap.size + 1 + 1, 9, none⟩ = some p9 ∧ W.cell? ⟨w.heap.size + 1 + 1, 10, none⟩ = some p10 ∧ W.cell? ⟨w.heap.size + 1 + 1, 11, none⟩ = some p11 ∧ W.cell? ⟨w.heap.size + 1 + 1, 12, none⟩ = some p12 ∧ W.cell? ⟨w.heap.size + 1 + 1, 13, none⟩ = some p13 :=
  ⟨(cell_of_row _ _ 0 _ _ _ h.2.1.1).trans rfl, (cell_of_row _ _ 1 _ _ _ h.2.1.1).trans rfl, (cell_of_row _ _ 2 _ _ _ h.2.1.1).trans rfl, (cell_of_row _ _ 3 _ _ _ h.2.1.1).trans rfl, (cell_of_row _ _ 4 _ _ _ h.2.1.1).trans rfl, (cell_of_row _ _ 5 _ _ _ h.2.1.1).trans rfl, (cell_of_row _ _ 6 _ _ _ h.2.1.1).trans rfl, (cell_of_row _ _ 0 _ _ _ h.2.1.2.1).trans rfl, (cell_of_row _ _ 1 _ _ _ h.2.1.2.1).trans rfl, (cell_of_row _ _ 2 _ _ _ h.2.1.2.1).trans rfl, (cell_of_row _ _ 3 _ _ _ h.2.1.2.1).trans rfl, (cell_of_row _ _ 4 _ _ _ h.2.1.2.1).trans rfl, (cell_of_row _ _ 5 _ _ _ h.2.1.2.1).trans rfl, (cell_of_row _ _ 6 _ _ _ h.2.1.2.1).trans rfl, (cell_of_row _ _ 0 _ _ _ h.2.1.2.2).trans rfl, (cell_of_row _ _ 1 _ _ _ h.2.1.2.2).trans rfl, (cell_of_row _ _ 2 _ _ _ h.2.1.2.2).trans rfl, (cell_of_row _ _ 3 _ _ _ h.2.1.2.2).trans rfl, (cell_of_row _ _ 4 _ _ _ h.2.1.2.2).trans rfl, (cell_of_row _ _ 5 _ _ _ h.2.1.2.2).trans rfl, (cell_of_row _ _ 6 _ _ _ h.2.1.2.2).trans rfl, (cell_of_row _ _ 7 _ _ _ h.2.1.2.2).trans rfl, (cell_of_row _ _ 8 _ _ _ h.2.1.2.2).trans rfl, (cell_of_row _ _ 9 _ _ _ h.2.1.2.2).trans rfl, (cell_of_row _ _ 10 _ _ _ h.2.1.2.2).trans rfl, (cell_of_row _ _ 11 _ _ _ h.2.1.2.2).trans rfl, (cell_of_row _ _ 12 _ _ _ h.2.1.2.2).trans rfl, (cell_of_row _ _ 13 _ _ _ h.2.1.2.2).trans rfl⟩
theorem PrP.drew (h : PrP aid ai ao bid bi bo g sb sa a3 a4 a5 a6 b3 b4 b5 b6 p0 p1 p2 p3 p7 p8 p9 p10 p11 p12 p13 w rs W) : PrP aid ai ao bid bi bo g sb sa a3 a4 a5 a6 b3 b4 b5 b6 p0 p1 p2 p3 p7 p8 p9 p10 p11 p12 p13 w rs W.drew := ⟨⟨h.1.1.drew, h.1.2⟩, h.2⟩
/-- A slice that reads as findings, the boxes kept. -/
def PrR (aid ai ao bid bi bo g sb sa : Int) (a3 a4 a5 a6 b3 b4 b5 b6 p0 p1 p2 p3 p7 p8 p9 p10 p11 p12 p13 : Value) (w : World) (rs : List (Option Addr × List Fd)) (L : List Fd) (e : Ending) (W' : World) : Prop := ∃ A c, e = .returned (.slice A L.length c) ∧ PrP aid ai ao bid bi bo g sb sa a3 a4 a5 a6 b3 b4 b5 b6 p0 p1 p2 p3 p7 p8 p9 p10 p11 p12 p13 w ((A, L) :: rs) W'
theorem awake_Pr (h : PrP aid ai ao bid bi bo g sb sa a3 a4 a5 a6 b3 b4 b5 b6 p0 p1 p2 p3 p7 p8 p9 p10 p11 p12 p13 w rs W) : Calls Tryd.prog 15 #[] W fun e W' => e = .returned (.bool true) ∧ PrP aid ai ao bid bi bo g sb sa a3 a4 a5 a6 b3 b4 b5 b6 p0 p1 p2 p3 p7 p8 p9 p10 p11 p12 p13 w rs W' :=
  (awake41 W h.1.2).mono fun _ _ ⟨he, hb⟩ => ⟨he, h.below hb⟩
theorem rules_Pair_Pr (h : PrP aid ai ao bid bi bo g sb sa a3 a4 a5 a6 b3 b4 b5 b6 p0 p1 p2 p3 p7 p8 p9 p10 p11 p12 p13 w rs W) (hg : g ≤ 9223372036854775807) : Calls Tryd.prog 17 #[.agg #[.int .i64 aid, .int .i64 ai, .int .i64 ao, a3, a4, a5, a6], .agg #[.int .i64 bid, .int .i64 bi, .int .i64 bo, b3, b4, b5, b6], .agg #[p0, p1, p2, p3, .int .i64 g, .int .i64 sb, .int .i64 sa, p7, p8, p9, p10, p11, p12, p13]] W (PrR aid ai ao bid bi bo g sb sa a3 a4 a5 a6 b3 b4 b5 b6 p0 p1 p2 p3 p7 p8 p9 p10 p11 p12 p13 w rs (pairL aid ai ao bid bi bo g)) :=
  (rules_Pair aid ai ao bid bi bo g a3 a4 a5 a6 b3 b4 b5 b6 p0 p1 p2 p3 _ _ p7 p8 p9 p10 p11 p12 p13 W hg).mono fun _ _ ⟨A, c, he, _, hR, hb⟩ => ⟨A, c, he, h.more hb hR⟩
theorem ref41_Pair_Pr (h : PrP aid ai ao bid bi bo g sb sa a3 a4 a5 a6 b3 b4 b5 b6 p0 p1 p2 p3 p7 p8 p9 p10 p11 p12 p13 w rs W) (hg : g ≤ 9223372036854775807) : Calls Tryd.prog 18 #[.agg #[.int .i64 aid, .int .i64 ai, .int .i64 ao, a3, a4, a5, a6], .agg #[.int .i64 bid, .int .i64 bi, .int .i64 bo, b3, b4, b5, b6], .agg #[p0, p1, p2, p3, .int .i64 g, .int .i64 sb, .int .i64 sa, p7, p8, p9, p10, p11, p12, p13]] W (PrR aid ai ao bid bi bo g sb sa a3 a4 a5 a6 b3 b4 b5 b6 p0 p1 p2 p3 p7 p8 p9 p10 p11 p12 p13 w rs (pairL aid ai ao bid bi bo g)) :=
  (ref41_Pair aid ai ao bid bi bo g a3 a4 a5 a6 b3 b4 b5 b6 p0 p1 p2 p3 _ _ p7 p8 p9 p10 p11 p12 p13 W hg).mono fun _ _ ⟨A, c, he, _, hR, hb⟩ => ⟨A, c, he, h.more hb hR⟩
theorem eq_Pr (A1 A2 : Option Addr) (c1 c2 : Nat) (L : List Fd) (h : PrP aid ai ao bid bi bo g sb sa a3 a4 a5 a6 b3 b4 b5 b6 p0 p1 p2 p3 p7 p8 p9 p10 p11 p12 p13 w [(A2, L), (A1, L)] W) (hm : L.length ≤ 9223372036854775807) :
    Calls Tryd.prog 16 #[.slice A1 L.length c1, .slice A2 L.length c2] W fun e W' => e = .returned (.bool true) ∧ PrP aid ai ao bid bi bo g sb sa a3 a4 a5 a6 b3 b4 b5 b6 p0 p1 p2 p3 p7 p8 p9 p10 p11 p12 p13 w [(A2, L), (A1, L)] W' := by
  refine (eqF_true A1 A2 c1 c2 _ _ L W (h.2.2 (A1, L) (by simp)) (h.2.2 (A2, L) (by simp)) hm).mono ?_
  rintro e w' ⟨rfl, q, rfl⟩
  exact ⟨rfl, ⟨⟨below_drewN' h.1.1 q, h.1.2⟩, h.2⟩⟩
end

theorem pairL_len (aid ai ao bid bi bo g : Int) : (pairL aid ai ao bid bi bo g).length ≤ 1 := by
  unfold pairL
  split
  · split
    · simp
    · split <;> simp
  · simp

set_option maxHeartbeats 4000000 in
set_option maxRecDepth 100000 in
theorem law_Pairs (aid ai ao bid bi bo g sb sa : Int) (a3 a4 a5 a6 b3 b4 b5 b6 p0 p1 p2 p3 p7 p8 p9 p10 p11 p12 p13 : Value) (w : World) (ht : Tab w) (hg : g ≤ 9223372036854775807) :
    Calls Tryd.prog 3 #[.agg #[.int .i64 aid, .int .i64 ai, .int .i64 ao, a3, a4, a5, a6], .agg #[.int .i64 bid, .int .i64 bi, .int .i64 bo, b3, b4, b5, b6], .agg #[p0, p1, p2, p3, .int .i64 g, .int .i64 sb, .int .i64 sa, p7, p8, p9, p10, p11, p12, p13]] w fun e w' => e = .returned (.bool true) ∧ Below w.heap.size w w' := by
  have hP0 : PrP aid ai ao bid bi bo g sb sa a3 a4 a5 a6 b3 b4 b5 b6 p0 p1 p2 p3 p7 p8 p9 p10 p11 p12 p13 w [] (((w.alloc (.cells #[.int .i64 aid, .int .i64 ai, .int .i64 ao, a3, a4, a5, a6] 27)).alloc (.cells #[.int .i64 bid, .int .i64 bi, .int .i64 bo, b3, b4, b5, b6] 27)).alloc (.cells #[p0, p1, p2, p3, .int .i64 g, .int .i64 sb, .int .i64 sa, p7, p8, p9, p10, p11, p12, p13] 29)) := by
    refine ⟨⟨bal (bal (bal (Below.refl _ _) _) _) _, tab_below ht (bal (bal (bal (Below.refl _ _) _) _) _)⟩, ⟨?_, ?_, heap_at_new _ _ _ (by simp)⟩, fun p hp => by simp at hp⟩
    · rw [Below.heap_alloc _ _ _ (by simp; omega), Below.heap_alloc _ _ _ (by simp)]; exact heap_at_new _ _ _ rfl
    · rw [Below.heap_alloc _ _ _ (by simp)]; exact heap_at_new _ _ _ (by simp)
  have hlen := pairL_len aid ai ao bid bi bo g
  generalize hpl : pairL aid ai ao bid bi bo g = L at hlen
  have HPL := Lib.hid hpl
  have HP0 := Lib.hid hP0
  clear hpl hP0 ht
  go_enter Tryd.func3, Tryd.ntmps3
  go_wp2
  have hP0 := HP0.out
  generalize (((w.alloc (.cells #[.int .i64 aid, .int .i64 ai, .int .i64 ao, a3, a4, a5, a6] 27)).alloc (.cells #[.int .i64 bid, .int .i64 bi, .int .i64 bo, b3, b4, b5, b6] 27)).alloc (.cells #[p0, p1, p2, p3, .int .i64 g, .int .i64 sb, .int .i64 sa, p7, p8, p9, p10, p11, p12, p13] 29)) = W at hP0 ⊢
  clear HP0
  have hP0d := hP0.drew
  have q0 := hP0.cells
  go_region_held3 (fun w' => w'.cell? ⟨w.heap.size, 0, none⟩ = some (.int .i64 aid) ∧ w'.cell? ⟨w.heap.size, 1, none⟩ = some (.int .i64 ai) ∧ w'.cell? ⟨w.heap.size, 2, none⟩ = some (.int .i64 ao) ∧ w'.cell? ⟨w.heap.size, 3, none⟩ = some a3 ∧ w'.cell? ⟨w.heap.size, 4, none⟩ = some a4 ∧ w'.cell? ⟨w.heap.size, 5, none⟩ = some a5 ∧ w'.cell? ⟨w.heap.size, 6, none⟩ = some a6 ∧ w'.cell? ⟨w.heap.size + 1, 0, none⟩ = some (.int .i64 bid) ∧ w'.cell? ⟨w.heap.size + 1, 1, none⟩ = some (.int .i64 bi) ∧ w'.cell? ⟨w.heap.size + 1, 2, none⟩ = some (.int .i64 bo) ∧ w'.cell? ⟨w.heap.size + 1, 3, none⟩ = some b3 ∧ w'.cell? ⟨w.heap.size + 1, 4, none⟩ = some b4 ∧ w'.cell? ⟨w.heap.size + 1, 5, none⟩ = some b5 ∧ w'.cell? ⟨w.heap.size + 1, 6, none⟩ = some b6 ∧ w'.cell? ⟨w.heap.size + 1 + 1, 0, none⟩ = some p0 ∧ w'.cell? ⟨w.heap.size + 1 + 1, 1, none⟩ = some p1 ∧ w'.cell? ⟨w.heap.size + 1 + 1, 2, none⟩ = some p2 ∧ w'.cell? ⟨w.heap.size + 1 + 1, 3, none⟩ = some p3 ∧ w'.cell? ⟨w.heap.size + 1 + 1, 4, none⟩ = some (.int .i64 g) ∧ w'.cell? ⟨w.heap.size + 1 + 1, 5, none⟩ = some (.int .i64 sb) ∧ w'.cell? ⟨w.heap.size + 1 + 1, 6, none⟩ = some (.int .i64 sa) ∧ w'.cell? ⟨w.heap.size + 1 + 1, 7, none⟩ = some p7 ∧ w'.cell? ⟨w.heap.size + 1 + 1, 8, none⟩ = some p8 ∧ w'.cell? ⟨w.heap.size + 1 + 1, 9, none⟩ = some p9 ∧ w'.cell? ⟨w.heap.size + 1 + 1, 10, none⟩ = some p10 ∧ w'.cell? ⟨w.heap.size + 1 + 1, 11, none⟩ = some p11 ∧ w'.cell? ⟨w.heap.size + 1 + 1, 12, none⟩ = some p12 ∧ w'.cell? ⟨w.heap.size + 1 + 1, 13, none⟩ = some p13) (go_keep)
    (first
      | (go_at_call 15; refine (awake_Pr hP0d).mono ?_; rintro e w1 ⟨rfl, hP1⟩; have q1 := hP1.cells)
      | (go_at_call 17; refine (rules_Pair_Pr hP1 hg).mono ?_; rw [HPL.out]; rintro e w2 ⟨A2, c2, rfl, hP2⟩; have q2 := hP2.cells)
      | (go_at_call 18; refine (ref41_Pair_Pr hP2 hg).mono ?_; rw [HPL.out]; rintro e w3 ⟨A3, c3, rfl, hP3⟩; have q3 := hP3.cells)
      | (go_at_call 16; refine (eq_Pr A2 A3 c2 c3 L hP3 (by omega)).mono ?_; rintro e w4 ⟨rfl, hP4⟩; have q4 := hP4.cells))
  clear q0 q1 q2 q3 q4
  go_wp2
  go_ret
  exact ⟨rfl, hP4.1.1⟩
end Go.Proofs.YtncmdhkmbmkiiaaDoor
