/- The walk of captionerlaw41.RulesShots: it answers true, and changes nothing that was there. The table of powers of ten is as the program lays it. -/
import Derived.Test.YtncmdhkmbmkiiaaDoorAw41
import Derived.Test.YtncmdhkmbmkiiaaDoorRules3
import Derived.Test.YtncmdhkmbmkiiaaDoorL41Apart
namespace Go.Proofs.YtncmdhkmbmkiiaaDoor
open Go.RowKit
attribute [local go_sem ↓] Go.wp_at_zero Go.wp_at_succ

theorem RdI.take {w : World} {B : Nat} {A : Option Addr} {l : List Int} (h : RdI w B A l) (k : Nat) : RdI w B A (l.take k) := by
  rcases h with h | ⟨b, off, e, hb, hc⟩
  · exact .inl (by rw [h]; simp)
  · refine .inr ⟨b, off, e, hb, fun i x hx => hc i x ?_⟩
    rw [List.getElem?_take] at hx
    split at hx
    · exact hx
    · cases hx

/-- The first eight shot changes, in the same array. -/
def ChR (A : Option Addr) (c : Nat) (l : List Int) (w : World) (e : Ending) (w' : World) : Prop := ∃ l8, l8 = l.take 8 ∧ e = .returned (.slice A l8.length c) ∧ w = w'
theorem ret_slice {A : Option Addr} {n m c : Nat} (h : n = m) : Ending.returned (.slice A n c) = .returned (.slice A m c) := by rw [h]

set_option maxHeartbeats 400000 in
theorem law41_changes (A : Option Addr) (c : Nat) (l : List Int) (w : World) (hc : l.length ≤ c) (_hm : c ≤ 9223372036854775807) :
    Calls Tryd.prog 19 #[.slice A l.length c] w (ChR A c l w) := by
  go_enter Tryd.func19, Tryd.ntmps19
  go_wp2
  go_ret
  exact ⟨_, rfl, ret_slice (by rw [List.length_take]; omega), rfl⟩

/-- The two boxes of RulesShots, the table, the shot changes, and slices that read as findings. -/
def ShP (id i o g sb sa : Int) (a3 a4 a5 a6 p0 p1 p2 p3 p7 p8 p9 p10 p11 p12 p13 : Value) (w : World) (L : Option Addr) (l : List Int) (rs : List (Option Addr × List Fd)) (W : World) : Prop := (Below w.heap.size w W ∧ Tab W ∧ RdI W w.heap.size L l) ∧ (W.heap[w.heap.size]? = some (.cells #[.int .i64 id, .int .i64 i, .int .i64 o, a3, a4, a5, a6] 27 (0, 0)) ∧ W.heap[w.heap.size + 1]? = some (.cells #[p0, p1, p2, p3, .int .i64 g, .int .i64 sb, .int .i64 sa, p7, p8, p9, p10, p11, p12, p13] 29 (0, 0))) ∧ ∀ p ∈ rs, RdL encF 4 W W.heap.size p.1 p.2
section
variable {id i o g sb sa : Int} {a3 a4 a5 a6 p0 p1 p2 p3 p7 p8 p9 p10 p11 p12 p13 : Value} {w W W' : World} {L : Option Addr} {l : List Int} {rs : List (Option Addr × List Fd)}
theorem ShP.lt (h : ShP id i o g sb sa a3 a4 a5 a6 p0 p1 p2 p3 p7 p8 p9 p10 p11 p12 p13 w L l rs W) : w.heap.size + 1 < W.heap.size := by
  rcases Nat.lt_or_ge (w.heap.size + 1) W.heap.size with h1 | h1
  · exact h1
  · have h := h.2.1.2; rw [Array.getElem?_eq_none (by omega)] at h; cases h
theorem ShP.below (h : ShP id i o g sb sa a3 a4 a5 a6 p0 p1 p2 p3 p7 p8 p9 p10 p11 p12 p13 w L l rs W) (hb : Below W.heap.size W W') : ShP id i o g sb sa a3 a4 a5 a6 p0 p1 p2 p3 p7 p8 p9 p10 p11 p12 p13 w L l rs W' := by
  have hl := h.lt
  exact ⟨⟨h.1.1.trans (hb.mono (by omega)), tab_below h.1.2.1 hb, h.1.2.2.below (hb.mono (by omega))⟩, ⟨(hb.block _ (by omega)).trans h.2.1.1, (hb.block _ (by omega)).trans h.2.1.2⟩, fun p hp => ((h.2.2 p hp).below hb).more hb.size⟩
theorem ShP.more {A : Option Addr} {F : List Fd} (h : ShP id i o g sb sa a3 a4 a5 a6 p0 p1 p2 p3 p7 p8 p9 p10 p11 p12 p13 w L l rs W) (hb : Below W.heap.size W W') (hR : RdL encF 4 W' W'.heap.size A F) : ShP id i o g sb sa a3 a4 a5 a6 p0 p1 p2 p3 p7 p8 p9 p10 p11 p12 p13 w L l ((A, F) :: rs) W' := by
  have h := h.below hb
  refine ⟨h.1, h.2.1, fun p hp => ?_⟩
  rcases List.mem_cons.1 hp with rfl | hp
  · exact hR
  · exact h.2.2 p hp
theorem ShP.cells (h : ShP id i o g sb sa a3 a4 a5 a6 p0 p1 p2 p3 p7 p8 p9 p10 p11 p12 p13 w L l rs W) : W.cell? ⟨w.heap.size, 0, none⟩ = some (.int .i64 id) ∧ W.cell? ⟨w.heap.size, 1, none⟩ = some (.int .i64 i) ∧ W.cell? ⟨w.heap.size, 2, none⟩ = some (.int .i64 o) ∧ W.cell? ⟨w.heap.size, 3, none⟩ = some a3 ∧ W.cell? ⟨w.heap.size, 4, none⟩ = some a4 ∧ W.cell? ⟨w.heap.size, 5, none⟩ = some a5 ∧ W.cell? ⟨w.heap.size, 6, none⟩ = some a6 ∧ W.cell? ⟨w.heap.size + 1, 0, none⟩ = some p0 ∧ W.cell? ⟨w.heap.size + 1, 1, none⟩ = some p1 ∧ W.cell? ⟨w.heap.size + 1, 2, none⟩ = some p2 ∧ W.cell? ⟨w.heap.size + 1, 3, none⟩ = some p3 ∧ W.cell? ⟨w.heap.size + 1, 4, none⟩ = some (.int .i64 g) ∧ W.cell? ⟨w.heap.size + 1, 5, none⟩ = some (.int .i64 sb) ∧ W.cell? ⟨w.heap.size + 1, 6, none⟩ = some (.int .i64 sa) ∧ W.cell? ⟨w.heap.size + 1, 7, none⟩ = some p7 ∧ W.cell? ⟨w.heap.size + 1, 8, none⟩ = some p8 ∧ W.cell? ⟨w.heap.size + 1, 9, none⟩ = some p9 ∧ W.cell? ⟨w.heap.size + 1, 10, none⟩ = some p10 ∧ W.cell? ⟨w.heap.size + 1, 11, none⟩ = some p11 ∧ W.cell? ⟨w.heap.size + 1, 12, none⟩ = some p12 ∧ W.cell? ⟨w.heap.size + 1, 13, none⟩ = some p13 :=
  ⟨(cell_of_row _ _ 0 _ _ _ h.2.1.1).trans rfl, (cell_of_row _ _ 1 _ _ _ h.2.1.1).trans rfl, (cell_of_row _ _ 2 _ _ _ h.2.1.1).trans rfl, (cell_of_row _ _ 3 _ _ _ h.2.1.1).trans rfl, (cell_of_row _ _ 4 _ _ _ h.2.1.1).trans rfl, (cell_of_row _ _ 5 _ _ _ h.2.1.1).trans rfl, (cell_of_row _ _ 6 _ _ _ h.2.1.1).trans rfl, (cell_of_row _ _ 0 _ _ _ h.2.1.2).trans rfl, (cell_of_row _ _ 1 _ _ _ h.2.1.2).trans rfl, (cell_of_row _ _ 2 _ _ _ h.2.1.2).trans rfl, (cell_of_row _ _ 3 _ _ _ h.2.1.2).trans rfl, (cell_of_row _ _ 4 _ _ _ h.2.1.2).trans rfl, (cell_of_row _ _ 5 _ _ _ h.2.1.2).trans rfl, (cell_of_row _ _ 6 _ _ _ h.2.1.2).trans rfl, (cell_of_row _ _ 7 _ _ _ h.2.1.2).trans rfl, (cell_of_row _ _ 8 _ _ _ h.2.1.2).trans rfl, (cell_of_row _ _ 9 _ _ _ h.2.1.2).trans rfl, (cell_of_row _ _ 10 _ _ _ h.2.1.2).trans rfl, (cell_of_row _ _ 11 _ _ _ h.2.1.2).trans rfl, (cell_of_row _ _ 12 _ _ _ h.2.1.2).trans rfl, (cell_of_row _ _ 13 _ _ _ h.2.1.2).trans rfl⟩
theorem ShP.drew (h : ShP id i o g sb sa a3 a4 a5 a6 p0 p1 p2 p3 p7 p8 p9 p10 p11 p12 p13 w L l rs W) : ShP id i o g sb sa a3 a4 a5 a6 p0 p1 p2 p3 p7 p8 p9 p10 p11 p12 p13 w L l rs W.drew := ⟨⟨h.1.1.drew, h.1.2⟩, h.2⟩
theorem ShP.take (h : ShP id i o g sb sa a3 a4 a5 a6 p0 p1 p2 p3 p7 p8 p9 p10 p11 p12 p13 w L l rs W) (k : Nat) : ShP id i o g sb sa a3 a4 a5 a6 p0 p1 p2 p3 p7 p8 p9 p10 p11 p12 p13 w L (l.take k) rs W := ⟨⟨h.1.1, h.1.2.1, h.1.2.2.take k⟩, h.2⟩
/-- A slice that reads as findings, the boxes kept. -/
def ShR (id i o g sb sa : Int) (a3 a4 a5 a6 p0 p1 p2 p3 p7 p8 p9 p10 p11 p12 p13 : Value) (w : World) (L : Option Addr) (l : List Int) (rs : List (Option Addr × List Fd)) (F : List Fd) (e : Ending) (W' : World) : Prop := ∃ A c, e = .returned (.slice A F.length c) ∧ F.length ≤ c ∧ ShP id i o g sb sa a3 a4 a5 a6 p0 p1 p2 p3 p7 p8 p9 p10 p11 p12 p13 w L l ((A, F) :: rs) W'
theorem awake_Sh (h : ShP id i o g sb sa a3 a4 a5 a6 p0 p1 p2 p3 p7 p8 p9 p10 p11 p12 p13 w L l rs W) : Calls Tryd.prog 15 #[] W fun e W' => e = .returned (.bool true) ∧ ShP id i o g sb sa a3 a4 a5 a6 p0 p1 p2 p3 p7 p8 p9 p10 p11 p12 p13 w L l rs W' :=
  (awake41 W h.1.2.1).mono fun _ _ ⟨he, hb⟩ => ⟨he, h.below hb⟩
theorem rules_Shot_Sh (c : Nat) (h : ShP id i o g sb sa a3 a4 a5 a6 p0 p1 p2 p3 p7 p8 p9 p10 p11 p12 p13 w L l rs W) (hm : l.length ≤ 9223372036854775807) : Calls Tryd.prog 20 #[.agg #[.int .i64 id, .int .i64 i, .int .i64 o, a3, a4, a5, a6], .slice L l.length c, .agg #[p0, p1, p2, p3, .int .i64 g, .int .i64 sb, .int .i64 sa, p7, p8, p9, p10, p11, p12, p13]] W (ShR id i o g sb sa a3 a4 a5 a6 p0 p1 p2 p3 p7 p8 p9 p10 p11 p12 p13 w L l rs (shotL l id i o sb sa)) :=
  (rules_Shot L c l id i o sb sa a3 a4 a5 a6 p0 p1 p2 p3 _ p7 p8 p9 p10 p11 p12 p13 W (h.1.2.2.more (by have := h.lt; omega)) hm).mono fun _ _ ⟨A, c, he, hc, hR, hb⟩ => ⟨A, c, he, hc, h.more hb hR⟩
theorem ref41_Shot_Sh (c : Nat) (h : ShP id i o g sb sa a3 a4 a5 a6 p0 p1 p2 p3 p7 p8 p9 p10 p11 p12 p13 w L l rs W) (hm : l.length ≤ 9223372036854775807) : Calls Tryd.prog 21 #[.agg #[.int .i64 id, .int .i64 i, .int .i64 o, a3, a4, a5, a6], .slice L l.length c, .agg #[p0, p1, p2, p3, .int .i64 g, .int .i64 sb, .int .i64 sa, p7, p8, p9, p10, p11, p12, p13]] W (ShR id i o g sb sa a3 a4 a5 a6 p0 p1 p2 p3 p7 p8 p9 p10 p11 p12 p13 w L l rs (shotL l id i o sb sa)) :=
  (ref41_Shot L c l id i o sb sa a3 a4 a5 a6 p0 p1 p2 p3 _ p7 p8 p9 p10 p11 p12 p13 W (h.1.2.2.more (by have := h.lt; omega)) hm).mono fun _ _ ⟨A, c, he, hc, hR, hb⟩ => ⟨A, c, he, hc, h.more hb hR⟩
theorem eq_Sh (A1 A2 : Option Addr) (c1 c2 : Nat) (F : List Fd) (h : ShP id i o g sb sa a3 a4 a5 a6 p0 p1 p2 p3 p7 p8 p9 p10 p11 p12 p13 w L l [(A2, F), (A1, F)] W) (hm : F.length ≤ 9223372036854775807) :
    Calls Tryd.prog 16 #[.slice A1 F.length c1, .slice A2 F.length c2] W fun e W' => e = .returned (.bool true) ∧ ShP id i o g sb sa a3 a4 a5 a6 p0 p1 p2 p3 p7 p8 p9 p10 p11 p12 p13 w L l [(A2, F), (A1, F)] W' := by
  refine (eqF_true A1 A2 c1 c2 _ _ F W (h.2.2 (A1, F) (by simp)) (h.2.2 (A2, F) (by simp)) hm).mono ?_
  rintro e w' ⟨rfl, q, rfl⟩
  exact ⟨rfl, ⟨⟨below_drewN' h.1.1 q, h.1.2⟩, h.2⟩⟩
end

theorem shotL_len (l : List Int) (id i o b a : Int) : (shotL l id i o b a).length ≤ 2 := by
  have h1 : ∀ f, (shotOne l id f b a).length ≤ 1 := by intro f; unfold shotOne; split <;> simp
  have h2 := h1 i
  have h3 := h1 o
  unfold shotL
  split
  · rw [List.length_append]; omega
  · simp

theorem shP_start (id i o g sb sa : Int) (a3 a4 a5 a6 p0 p1 p2 p3 p7 p8 p9 p10 p11 p12 p13 : Value) (w : World) (L : Option Addr) (l : List Int) (ht : Tab w) (hR : RdI w w.heap.size L l) : ShP id i o g sb sa a3 a4 a5 a6 p0 p1 p2 p3 p7 p8 p9 p10 p11 p12 p13 w L l [] ((w.alloc (.cells #[.int .i64 id, .int .i64 i, .int .i64 o, a3, a4, a5, a6] 27)).alloc (.cells #[p0, p1, p2, p3, .int .i64 g, .int .i64 sb, .int .i64 sa, p7, p8, p9, p10, p11, p12, p13] 29)) := by
  refine ⟨⟨bal (bal (Below.refl _ _) _) _, tab_below ht (bal (bal (Below.refl _ _) _) _), hR.below (bal (bal (Below.refl _ _) _) _)⟩, ⟨?_, heap_at_new _ _ _ (by simp)⟩, fun p hp => by simp at hp⟩
  rw [Below.heap_alloc _ _ _ (by simp)]; exact heap_at_new _ _ _ rfl

set_option maxHeartbeats 4000000 in
set_option maxRecDepth 100000 in
theorem law_Shots (L : Option Addr) (c : Nat) (l : List Int) (id i o g sb sa : Int) (a3 a4 a5 a6 p0 p1 p2 p3 p7 p8 p9 p10 p11 p12 p13 : Value) (w : World) (ht : Tab w) (hR : RdI w w.heap.size L l) (hc : l.length ≤ c) (hm : c ≤ 9223372036854775807) :
    Calls Tryd.prog 4 #[.agg #[.int .i64 id, .int .i64 i, .int .i64 o, a3, a4, a5, a6], .slice L l.length c, .agg #[p0, p1, p2, p3, .int .i64 g, .int .i64 sb, .int .i64 sa, p7, p8, p9, p10, p11, p12, p13]] w fun e w' => e = .returned (.bool true) ∧ Below w.heap.size w w' := by
  have hP0 := shP_start id i o g sb sa a3 a4 a5 a6 p0 p1 p2 p3 p7 p8 p9 p10 p11 p12 p13 w L l ht hR
  have hlen := shotL_len (l.take 8) id i o sb sa
  have hl8 : (l.take 8).length ≤ 8 := List.length_take_le _ _
  generalize hpl : shotL (l.take 8) id i o sb sa = F at hlen
  have HPL := Lib.hid hpl
  have HP0 := Lib.hid hP0
  clear hpl hP0 ht hR
  go_enter Tryd.func4, Tryd.ntmps4
  go_wp2_with fail
  refine (awake_Sh HP0.out).mono ?_
  rintro e W ⟨rfl, hP⟩
  clear HP0
  have HP := Lib.hid hP
  clear hP
  go_wp2_with fail
  refine (law41_changes L c l _ hc hm).mono ?_
  rintro e w' ⟨l8, h8, rfl, rfl⟩
  have hP0 := HP.out.take 8
  clear HP
  rw [← h8] at hP0 HPL hl8
  clear h8
  go_wp2_with fail
  have hP0d := hP0.drew
  have q0 := hP0.cells
  go_region_held3 (fun w' => w'.cell? ⟨w.heap.size, 0, none⟩ = some (.int .i64 id) ∧ w'.cell? ⟨w.heap.size, 1, none⟩ = some (.int .i64 i) ∧ w'.cell? ⟨w.heap.size, 2, none⟩ = some (.int .i64 o) ∧ w'.cell? ⟨w.heap.size, 3, none⟩ = some a3 ∧ w'.cell? ⟨w.heap.size, 4, none⟩ = some a4 ∧ w'.cell? ⟨w.heap.size, 5, none⟩ = some a5 ∧ w'.cell? ⟨w.heap.size, 6, none⟩ = some a6 ∧ w'.cell? ⟨w.heap.size + 1, 0, none⟩ = some p0 ∧ w'.cell? ⟨w.heap.size + 1, 1, none⟩ = some p1 ∧ w'.cell? ⟨w.heap.size + 1, 2, none⟩ = some p2 ∧ w'.cell? ⟨w.heap.size + 1, 3, none⟩ = some p3 ∧ w'.cell? ⟨w.heap.size + 1, 4, none⟩ = some (.int .i64 g) ∧ w'.cell? ⟨w.heap.size + 1, 5, none⟩ = some (.int .i64 sb) ∧ w'.cell? ⟨w.heap.size + 1, 6, none⟩ = some (.int .i64 sa) ∧ w'.cell? ⟨w.heap.size + 1, 7, none⟩ = some p7 ∧ w'.cell? ⟨w.heap.size + 1, 8, none⟩ = some p8 ∧ w'.cell? ⟨w.heap.size + 1, 9, none⟩ = some p9 ∧ w'.cell? ⟨w.heap.size + 1, 10, none⟩ = some p10 ∧ w'.cell? ⟨w.heap.size + 1, 11, none⟩ = some p11 ∧ w'.cell? ⟨w.heap.size + 1, 12, none⟩ = some p12 ∧ w'.cell? ⟨w.heap.size + 1, 13, none⟩ = some p13) (go_keep)
    (first
      | (go_at_call 20; refine (rules_Shot_Sh c hP0d (by omega)).mono ?_; rw [HPL.out]; rintro e w2 ⟨A2, c2, rfl, _, hP2⟩; have q2 := hP2.cells)
      | (go_at_call 21; refine (ref41_Shot_Sh c hP2 (by omega)).mono ?_; rw [HPL.out]; rintro e w3 ⟨A3, c3, rfl, _, hP3⟩; have q3 := hP3.cells)
      | (go_at_call 16; refine (eq_Sh A2 A3 c2 c3 F hP3 (by omega)).mono ?_; rintro e w4 ⟨rfl, hP4⟩; have q4 := hP4.cells))
  clear q0 q2 q3 q4
  go_wp2
  go_ret
  exact ⟨rfl, hP4.1.1⟩
end Go.Proofs.YtncmdhkmbmkiiaaDoor
