/- The contract of captionerlaw41's awake: it answers true. The table of powers of ten is as the program lays it. -/
import Derived.Test.YtncmdhkmbmkiiaaDoorText41b
import Derived.Test.YtncmdhkmbmkiiaaDoorRules2
import Derived.Test.YtncmdhkmbmkiiaaDoorEqF
namespace Go.Proofs.YtncmdhkmbmkiiaaDoor
open Go.RowKit
attribute [local go_sem ↓] Go.wp_at_zero Go.wp_at_succ

/-- An event of captionerlaw41.at, whatever its rows. -/
def AtRet (id i o : Int) (w : World) (e : Ending) (w' : World) : Prop := ∃ v, e = .returned (.agg #[.int .i64 id, .int .i64 i, .int .i64 o, .string ⟨#[]⟩, .int .u8 1, .string ⟨#[]⟩, v]) ∧ Below w.heap.size w w'

set_option maxHeartbeats 400000 in
theorem law41_at (id i o : Int) (w : World) : Calls Tryd.prog 22 #[.int .i64 id, .int .i64 i, .int .i64 o] w (AtRet id i o w) := by
  go_enter Tryd.func22, Tryd.ntmps22
  go_wp2
  refine bodyPost_ret (v := .agg #[.int .i64 id, .int .i64 i, .int .i64 o, .string ⟨#[]⟩, .int .u8 1, .string ⟨#[]⟩, .slice (some ⟨w.heap.size + 1 + 1, 0, none⟩) 1 1]) (by simp [results, Tryd.results22, go_sem]) rfl ⟨_, rfl, ?_⟩
  exact bal (bal (bal (Below.refl _ _) _) _) _

/-- The block of awake's profile, the table, and slices that read as findings. -/
def AwP (g : Nat) (w0 : World) (rs : List (Option Addr × List Fd)) (w : World) : Prop := (Below g w0 w ∧ Tab w) ∧ w.heap[g]? = some (.cells #[.string ⟨#[]⟩, .int .i64 0, .int .i64 0, .int .i64 0, .int .i64 2, .int .i64 12, .int .i64 12, .int .i64 0, .int .i64 0, .string ⟨#[]⟩, .int .i64 0, .int .i64 0, .int .i64 0, .int .i64 0] 29 (0, 0)) ∧ ∀ p ∈ rs, RdL encF 4 w w.heap.size p.1 p.2
section
variable {g : Nat} {w0 w w' : World} {rs : List (Option Addr × List Fd)}
theorem AwP.lt (h : AwP g w0 rs w) : g < w.heap.size := by
  rcases Nat.lt_or_ge g w.heap.size with h1 | h1
  · exact h1
  · have h := h.2.1; simp [Array.getElem?_eq_none h1] at h
theorem AwP.below (h : AwP g w0 rs w) (hb : Below w.heap.size w w') : AwP g w0 rs w' :=
  ⟨⟨h.1.1.trans (hb.mono (Nat.le_of_lt h.lt)), tab_below h.1.2 hb⟩, (hb.block g h.lt).trans h.2.1, fun p hp => ((h.2.2 p hp).below hb).more hb.size⟩
theorem AwP.alloc (h : AwP g w0 rs w) (o : Obj) : AwP g w0 rs (w.alloc o) := h.below (bal (Below.refl _ _) _)
theorem AwP.drew (h : AwP g w0 rs w) : AwP g w0 rs w.drew := ⟨⟨h.1.1.drew, h.1.2⟩, h.2⟩
theorem AwP.drewN (h : AwP g w0 rs w) (q : Nat) : AwP g w0 rs (w.drewN q) := ⟨⟨below_drewN' h.1.1 q, h.1.2⟩, h.2⟩
theorem AwP.cells (h : AwP g w0 rs w) : w.cell? ⟨g, 0, none⟩ = some (.string ⟨#[]⟩) ∧ w.cell? ⟨g, 1, none⟩ = some (.int .i64 0) ∧ w.cell? ⟨g, 2, none⟩ = some (.int .i64 0) ∧ w.cell? ⟨g, 3, none⟩ = some (.int .i64 0) ∧ w.cell? ⟨g, 4, none⟩ = some (.int .i64 2) ∧ w.cell? ⟨g, 5, none⟩ = some (.int .i64 12) ∧ w.cell? ⟨g, 6, none⟩ = some (.int .i64 12) ∧ w.cell? ⟨g, 7, none⟩ = some (.int .i64 0) ∧ w.cell? ⟨g, 8, none⟩ = some (.int .i64 0) ∧ w.cell? ⟨g, 9, none⟩ = some (.string ⟨#[]⟩) ∧ w.cell? ⟨g, 10, none⟩ = some (.int .i64 0) ∧ w.cell? ⟨g, 11, none⟩ = some (.int .i64 0) ∧ w.cell? ⟨g, 12, none⟩ = some (.int .i64 0) ∧ w.cell? ⟨g, 13, none⟩ = some (.int .i64 0) :=
  ⟨(cell_of_row _ _ 0 _ _ _ h.2.1).trans rfl, (cell_of_row _ _ 1 _ _ _ h.2.1).trans rfl, (cell_of_row _ _ 2 _ _ _ h.2.1).trans rfl, (cell_of_row _ _ 3 _ _ _ h.2.1).trans rfl, (cell_of_row _ _ 4 _ _ _ h.2.1).trans rfl, (cell_of_row _ _ 5 _ _ _ h.2.1).trans rfl, (cell_of_row _ _ 6 _ _ _ h.2.1).trans rfl, (cell_of_row _ _ 7 _ _ _ h.2.1).trans rfl, (cell_of_row _ _ 8 _ _ _ h.2.1).trans rfl, (cell_of_row _ _ 9 _ _ _ h.2.1).trans rfl, (cell_of_row _ _ 10 _ _ _ h.2.1).trans rfl, (cell_of_row _ _ 11 _ _ _ h.2.1).trans rfl, (cell_of_row _ _ 12 _ _ _ h.2.1).trans rfl, (cell_of_row _ _ 13 _ _ _ h.2.1).trans rfl⟩

def AtP (g : Nat) (w0 : World) (rs : List (Option Addr × List Fd)) (id i o : Int) (w : World) (e : Ending) (w' : World) : Prop := ∃ v, e = .returned (.agg #[.int .i64 id, .int .i64 i, .int .i64 o, .string ⟨#[]⟩, .int .u8 1, .string ⟨#[]⟩, v]) ∧ Below w.heap.size w w' ∧ AwP g w0 rs w'
theorem at_P (id i o : Int) (hP : AwP g w0 rs w) : Calls Tryd.prog 22 #[.int .i64 id, .int .i64 i, .int .i64 o] w (AtP g w0 rs id i o w) :=
  (law41_at id i o w).mono fun _ _ ⟨v, he, hb⟩ => ⟨v, he, hb, hP.below hb⟩
/-- A slice that reads as findings, nothing older changed. -/
def FdP (g : Nat) (w0 : World) (rs : List (Option Addr × List Fd)) (w : World) (L : List Fd) (n : Nat) (e : Ending) (w' : World) : Prop := ∃ A c, e = .returned (.slice A n c) ∧ Below w.heap.size w w' ∧ AwP g w0 ((A, L) :: rs) w'
theorem AwP.more (hP : AwP g w0 rs w) {A : Option Addr} {L : List Fd} (hb : Below w.heap.size w w') (hR : RdL encF 4 w' w'.heap.size A L) : AwP g w0 ((A, L) :: rs) w' := by
  have h := hP.below hb
  refine ⟨h.1, h.2.1, fun p hp => ?_⟩
  rcases List.mem_cons.1 hp with rfl | hp
  · exact hR
  · exact h.2.2 p hp
theorem pair_P (aid ai ao bid bi bo : Int) (a3 a4 a5 a6 b3 b4 b5 b6 p0 p1 p2 p3 p5 p6 p7 p8 p9 p10 p11 p12 p13 : Value) (L : List Fd) (n : Nat) (hP : AwP g w0 rs w) (hL : pairL aid ai ao bid bi bo 2 = L) (hn : L.length = n) :
    Calls Tryd.prog 17 #[.agg #[.int .i64 aid, .int .i64 ai, .int .i64 ao, a3, a4, a5, a6], .agg #[.int .i64 bid, .int .i64 bi, .int .i64 bo, b3, b4, b5, b6], .agg #[p0, p1, p2, p3, .int .i64 2, p5, p6, p7, p8, p9, p10, p11, p12, p13]] w (FdP g w0 rs w L n) := by
  refine (rules_Pair aid ai ao bid bi bo 2 a3 a4 a5 a6 b3 b4 b5 b6 p0 p1 p2 p3 p5 p6 p7 p8 p9 p10 p11 p12 p13 w (by decide)).mono ?_
  rintro e w' ⟨A, c, he, _, hR, hb⟩
  rw [hL] at he hR
  exact ⟨A, c, by rw [he, hn], hb, hP.more hb hR⟩
theorem eqF_P (A1 : Option Addr) (c1 n : Nat) (r id o m : Int) (hP : AwP g w0 rs w) (h1 : (A1, [⟨r, id, o, m⟩]) ∈ rs) (hn : n = w.heap.size) :
    Calls Tryd.prog 16 #[.slice A1 1 c1, .slice (some ⟨n, 0, none⟩) 1 1] (w.alloc (.cells #[.int .u8 r, .int .i64 id, .int .i64 o, .int .i64 m] 35)) fun e w' => e = .returned (.bool true) ∧ AwP g w0 rs w' := by
  subst hn
  refine (eqF_true A1 _ c1 1 _ _ [⟨r, id, o, m⟩] _ ((hP.2.2 _ h1).below (bal (Below.refl _ _) _)) (rdF_lit w r id o m) (by simp)).mono ?_
  rintro e w' ⟨rfl, q, rfl⟩
  exact ⟨rfl, (hP.alloc _).drewN q⟩
theorem shot_P (A : Option Addr) (c : Nat) (i o : Int) (a3 a4 a5 a6 p0 p1 p2 p3 p4 p7 p8 p9 p10 p11 p12 p13 : Value) (L : List Fd) (n : Nat) (hP : AwP g w0 rs w) (h : RdI w w.heap.size A [100]) (hL : shotL [100] 1 i o 12 12 = L) (hn : L.length = n) :
    Calls Tryd.prog 20 #[.agg #[.int .i64 1, .int .i64 i, .int .i64 o, a3, a4, a5, a6], .slice A 1 c, .agg #[p0, p1, p2, p3, p4, .int .i64 12, .int .i64 12, p7, p8, p9, p10, p11, p12, p13]] w (FdP g w0 rs w L n) := by
  refine (rules_Shot A c [100] 1 i o 12 12 a3 a4 a5 a6 p0 p1 p2 p3 p4 p7 p8 p9 p10 p11 p12 p13 w h (by decide)).mono ?_
  rintro e w' ⟨A, c, he, _, hR, hb⟩
  rw [hL] at he hR
  exact ⟨A, c, by rw [he, hn], hb, hP.more hb hR⟩
end
theorem aw_s1 : shotL [100] 1 95 112 12 12 = [⟨6, 1, 100, 5⟩] := by rfl
theorem aw_s2 : shotL [100] 1 94 100 12 12 = [⟨6, 1, 100, 6⟩] := by rfl
theorem aw_p1 : pairL 4 0 10 5 11 20 2 = [⟨4, 4, 5, 1⟩] := by rfl
theorem aw_p2 : pairL 4 0 10 5 9 20 2 = [⟨5, 4, 5, 1⟩] := by rfl
theorem aw_t : txL [⟨4, 4, 5, 1⟩] = ([71, 65, 80, 32, 52, 32, 53, 32, 49, 10], 0) := by decide +kernel

set_option maxHeartbeats 4000000 in
set_option maxRecDepth 100000 in
theorem awake41 (w : World) (ht : Tab w) : Calls Tryd.prog 15 #[] w fun e w' => e = .returned (.bool true) ∧ Below w.heap.size w w' := by
  have HT := Lib.hid ht
  clear ht
  go_enter Tryd.func15, Tryd.ntmps15
  go_wp2
  have hP0 : AwP w.heap.size w [] (w.alloc (.cells #[.string ⟨#[]⟩, .int .i64 0, .int .i64 0, .int .i64 0, .int .i64 2, .int .i64 12, .int .i64 12, .int .i64 0, .int .i64 0, .string ⟨#[]⟩, .int .i64 0, .int .i64 0, .int .i64 0, .int .i64 0] 29)) := ⟨⟨bal (Below.refl _ _) _, tab_below HT.out (bal (Below.refl _ _) _)⟩, heap_at_new _ _ _ rfl, fun p hp => by simp at hp⟩
  generalize (w.alloc (.cells #[.string ⟨#[]⟩, .int .i64 0, .int .i64 0, .int .i64 0, .int .i64 2, .int .i64 12, .int .i64 12, .int .i64 0, .int .i64 0, .string ⟨#[]⟩, .int .i64 0, .int .i64 0, .int .i64 0, .int .i64 0] 29)) = W at hP0 ⊢
  have hP0d := hP0.drew
  have q0 := hP0.cells
  go_region_held3 (fun w' => w'.cell? ⟨w.heap.size, 0, none⟩ = some (.string ⟨#[]⟩) ∧ w'.cell? ⟨w.heap.size, 1, none⟩ = some (.int .i64 0) ∧ w'.cell? ⟨w.heap.size, 2, none⟩ = some (.int .i64 0) ∧ w'.cell? ⟨w.heap.size, 3, none⟩ = some (.int .i64 0) ∧ w'.cell? ⟨w.heap.size, 4, none⟩ = some (.int .i64 2) ∧ w'.cell? ⟨w.heap.size, 5, none⟩ = some (.int .i64 12) ∧ w'.cell? ⟨w.heap.size, 6, none⟩ = some (.int .i64 12) ∧ w'.cell? ⟨w.heap.size, 7, none⟩ = some (.int .i64 0) ∧ w'.cell? ⟨w.heap.size, 8, none⟩ = some (.int .i64 0) ∧ w'.cell? ⟨w.heap.size, 9, none⟩ = some (.string ⟨#[]⟩) ∧ w'.cell? ⟨w.heap.size, 10, none⟩ = some (.int .i64 0) ∧ w'.cell? ⟨w.heap.size, 11, none⟩ = some (.int .i64 0) ∧ w'.cell? ⟨w.heap.size, 12, none⟩ = some (.int .i64 0) ∧ w'.cell? ⟨w.heap.size, 13, none⟩ = some (.int .i64 0)) (go_keep)
    (first
      | (go_at_call_of 22 (Value.int IntKind.i64 11); refine (at_P 5 11 20 hP1).mono ?_; rintro e w2 ⟨v2, rfl, _, hP2⟩; have q2 := hP2.cells)
      | (go_at_call_of 22 (Value.int IntKind.i64 9); refine (at_P 5 9 20 hP4).mono ?_; rintro e w5 ⟨v5, rfl, _, hP5⟩; have q5 := hP5.cells)
      | (go_at_call 22; refine (at_P 4 0 10 hP3).mono ?_; rintro e w4 ⟨v4, rfl, _, hP4⟩; have q4 := hP4.cells)
      | (go_at_call 22; refine (at_P 4 0 10 hP0d).mono ?_; rintro e w1 ⟨v1, rfl, _, hP1⟩; have q1 := hP1.cells)
      | (go_at_call 17; refine (pair_P 4 0 10 5 9 20 _ _ _ _ _ _ _ _ _ _ _ _ _ _ _ _ _ _ _ _ _ [⟨5, 4, 5, 1⟩] 1 hP5 aw_p2 rfl).mono ?_; rintro e w6 ⟨A6, c6, rfl, _, hP6⟩; have q6 := hP6.cells)
      | (go_at_call 17; refine (pair_P 4 0 10 5 11 20 _ _ _ _ _ _ _ _ _ _ _ _ _ _ _ _ _ _ _ _ _ [⟨4, 4, 5, 1⟩] 1 hP2 aw_p1 rfl).mono ?_; rintro e w3 ⟨A3, c3, rfl, _, hP3⟩; have q3 := hP3.cells))
  clear q0 q1 q2 q3 q4 q5 q6 hP0 hP0d hP1 hP2 hP3 hP4 hP5
  go_wp2_with fail
  refine (eqF_P A3 c3 _ 4 4 5 1 hP6 (by simp) rfl).mono ?_
  rintro e w7 ⟨rfl, hP7⟩
  clear hP6
  go_wp2_with fail
  refine (eqF_P A6 c6 _ 5 4 5 1 hP7 (by simp) rfl).mono ?_
  rintro e w8 ⟨rfl, hP8⟩
  clear hP7
  go_upto_region 5 with (fail)
  have q8 := hP8.cells
  have hlt8 := hP8.lt
  go_cut [4, 5] (fun s4 s5 wx => ∃ A10 c10 A12 c12, s4 = .slice A10 1 c10 ∧ s5 = .slice A12 1 c12 ∧ AwP w.heap.size w [(A12, [⟨6, 1, 100, 6⟩]), (A10, [⟨6, 1, 100, 5⟩]), (A6, [⟨5, 4, 5, 1⟩]), (A3, [⟨4, 4, 5, 1⟩])] wx)
  case first =>
    go_region_held3 (fun w' => w'.cell? ⟨w.heap.size, 0, none⟩ = some (.string ⟨#[]⟩) ∧ w'.cell? ⟨w.heap.size, 1, none⟩ = some (.int .i64 0) ∧ w'.cell? ⟨w.heap.size, 2, none⟩ = some (.int .i64 0) ∧ w'.cell? ⟨w.heap.size, 3, none⟩ = some (.int .i64 0) ∧ w'.cell? ⟨w.heap.size, 4, none⟩ = some (.int .i64 2) ∧ w'.cell? ⟨w.heap.size, 5, none⟩ = some (.int .i64 12) ∧ w'.cell? ⟨w.heap.size, 6, none⟩ = some (.int .i64 12) ∧ w'.cell? ⟨w.heap.size, 7, none⟩ = some (.int .i64 0) ∧ w'.cell? ⟨w.heap.size, 8, none⟩ = some (.int .i64 0) ∧ w'.cell? ⟨w.heap.size, 9, none⟩ = some (.string ⟨#[]⟩) ∧ w'.cell? ⟨w.heap.size, 10, none⟩ = some (.int .i64 0) ∧ w'.cell? ⟨w.heap.size, 11, none⟩ = some (.int .i64 0) ∧ w'.cell? ⟨w.heap.size, 12, none⟩ = some (.int .i64 0) ∧ w'.cell? ⟨w.heap.size, 13, none⟩ = some (.int .i64 0)) (go_keep)
      (first
        | (go_at_call_of 22 (Value.int IntKind.i64 95); refine (at_P (g := w.heap.size) (w0 := w) (rs := [(A6, [⟨5, 4, 5, 1⟩]), (A3, [⟨4, 4, 5, 1⟩])]) 1 95 112 ?_).mono ?_; (first | with_reducible exact AwP.drew hP8 | with_reducible exact AwP.drew (AwP.alloc hP8 _) | with_reducible exact AwP.drew (AwP.alloc (AwP.alloc hP8 _) _)); rintro e w9 ⟨v9, rfl, hb9, hP9⟩; have q9 := hP9.cells; have bc9 := bcellc hb9; have hz9 := hb9.size; (try simp at hz9); clear hb9)
        | (go_at_call_of 22 (Value.int IntKind.i64 94); refine (at_P (g := w.heap.size) (w0 := w) (rs := [(A10, [⟨6, 1, 100, 5⟩]), (A6, [⟨5, 4, 5, 1⟩]), (A3, [⟨4, 4, 5, 1⟩])]) 1 94 100 ?_).mono ?_; (first | with_reducible exact hP10 | with_reducible exact AwP.alloc hP10 _ | with_reducible exact AwP.alloc (AwP.alloc hP10 _) _); rintro e w11 ⟨v11, rfl, hb11, hP11⟩; have q11 := hP11.cells; have bc11 := bcellc hb11; have hz11 := hb11.size; (try simp at hz11); clear hb11)
        | (go_at_call 20; have _g := hP11; refine (shot_P _ _ 94 100 _ _ _ _ _ _ _ _ _ _ _ _ _ _ _ _ [⟨6, 1, 100, 6⟩] 1 (w0 := w) (g := w.heap.size) (rs := [(A10, [⟨6, 1, 100, 5⟩]), (A6, [⟨5, 4, 5, 1⟩]), (A3, [⟨4, 4, 5, 1⟩])]) ?_ ?_ aw_s2 rfl).mono ?_; (first | with_reducible exact hP11 | with_reducible exact AwP.alloc hP11 _ | with_reducible exact AwP.alloc (AwP.alloc hP11 _) _); (refine rdI_one ?_ ?_ <;> first | omega | (simp; done) | (simp; omega) | (go_simp; done) | ((iterate 4 (try (first | rw [bc11 _ _ (by first | omega | (simp; done) | (simp; omega))] | rw [bc10 _ _ (by first | omega | (simp; done) | (simp; omega))] | rw [bc9 _ _ (by first | omega | (simp; done) | (simp; omega))] | rw [World.cell?_alloc_lt _ _ _ (by first | omega | (simp; done) | (simp; omega))]))); first | (go_simp; done) | (simp; done))); rintro e w12 ⟨A12, c12, rfl, _, hP12⟩; have q12 := hP12.cells)
        | (go_at_call 20; (with_reducible refine (shot_P _ _ 95 112 _ _ _ _ _ _ _ _ _ _ _ _ _ _ _ _ [⟨6, 1, 100, 5⟩] 1 (w0 := w) (g := w.heap.size) (rs := [(A6, [⟨5, 4, 5, 1⟩]), (A3, [⟨4, 4, 5, 1⟩])]) ?_ ?_ aw_s1 rfl).mono ?_); (first | with_reducible exact hP9 | with_reducible exact AwP.alloc hP9 _ | with_reducible exact AwP.alloc (AwP.alloc hP9 _) _); (refine rdI_one ?_ ?_ <;> first | omega | (simp; done) | (simp; omega) | (go_simp; done) | ((iterate 4 (try (first | rw [bc11 _ _ (by first | omega | (simp; done) | (simp; omega))] | rw [bc10 _ _ (by first | omega | (simp; done) | (simp; omega))] | rw [bc9 _ _ (by first | omega | (simp; done) | (simp; omega))] | rw [World.cell?_alloc_lt _ _ _ (by first | omega | (simp; done) | (simp; omega))]))); first | (go_simp; done) | (simp; done))); rintro e w10 ⟨A10, c10, rfl, hb10, hP10⟩; have q10 := hP10.cells; have bc10 := bcellc hb10; have hz10 := hb10.size; (try simp at hz10); clear hb10))
    all_goals (clear q8 q9 q10 q11 q12; go_wp2_with fail; go_meet; exact ⟨_, _, _, _, rfl, rfl, hP12⟩)
  case rest =>
    clear q8 hlt8 hP8
    obtain ⟨A10, c10, A12, c12, rfl, rfl, hP12⟩ := hcut
    go_wp2_with fail
    refine (eqF_P A10 c10 _ 6 1 100 5 hP12 (by simp) rfl).mono ?_
    rintro e w13 ⟨rfl, hP13⟩
    clear hP12
    go_wp2_with fail
    refine (eqF_P A12 c12 _ 6 1 100 6 hP13 (by simp) rfl).mono ?_
    rintro e w14 ⟨rfl, hP14⟩
    clear hP13
    have HX := Lib.hid hP14
    clear hP14
    have hx := rules_Text A3 c3 [⟨4, 4, 5, 1⟩] w14 (HX.out.2.2 (A3, [⟨4, 4, 5, 1⟩]) (by simp)) (by intro f hf; simp at hf; subst hf; simp [wfF]) (by simp) HX.out.1.2
    rw [aw_t] at hx
    have HY := Lib.hid hx
    clear hx
    go_wp2_with fail
    refine HY.out.mono ?_
    rintro e w15 ⟨rfl, hb15⟩
    have HZ := Lib.hid hb15
    clear hb15
    go_wp2
    go_ret
    exact ⟨by rfl, HX.out.1.1.trans (HZ.out.mono (Nat.le_of_lt HX.out.lt))⟩
end Go.Proofs.YtncmdhkmbmkiiaaDoor
