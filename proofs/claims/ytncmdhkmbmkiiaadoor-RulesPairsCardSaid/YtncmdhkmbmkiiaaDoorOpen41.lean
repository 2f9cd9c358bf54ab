/- What an event, a profile and a slice of int64 that came in look like to the walks. No condition. -/
import Derived.Test.YtncmdhkmbmkiiaaDoorLaid3
import Derived.Test.YtncmdhkmbmkiiaaDoorRules1
import Derived.Lib.SmallJoins
namespace Go.Proofs.YtncmdhkmbmkiiaaDoor
open Go.ChangeShapes Go.WideShapes Go.ChangeAt Go.RowKit Go.Joins

set_option maxRecDepth 100000
theorem c64 : Tryd.prog.cellsOf 2 = 1 := by kernel_rfl
theorem cSpan : Tryd.prog.cellsOf 23 = 2 := by kernel_rfl
theorem cEvent : Tryd.prog.cellsOf 27 = 7 := by kernel_rfl
theorem cProfile : Tryd.prog.cellsOf 29 = 14 := by kernel_rfl

section
variable {H : Type} {enc : TypeId × Value → H} {w : World} {base : Nat} {spare : Nat → Bool} {held : Bool} {r : Reach} {b0 : Nat} {v : Value} {d : DataW H} {p : List MemPlace}

theorem open_event (hv : Value.okWide Tryd.prog w r b0 27 v) (h : DataW.Trod enc Tryd.prog w base spare held 27 v d p) :
    ∃ (id i o : Int) (a3 a4 a5 a6 : Value), v = .agg #[.int .i64 id, .int .i64 i, .int .i64 o, a3, a4, a5, a6] ∧ (Lit.int .i64 id).wf = true ∧ (Lit.int .i64 i).wf = true ∧ (Lit.int .i64 o).wf = true := by
  obtain ⟨cs, rfl, hsz⟩ := okWide_struct Tryd.underlying27 hv
  obtain ⟨l⟩ := cs
  match l, hsz.trans cEvent with
  | [c0, c1, c2, c3, c4, c5, c6], _ =>
    obtain ⟨fuel, hf⟩ := h
    obtain ⟨xs, n, _, _, _, hlen, hg⟩ := DataW.trod_struct Tryd.underlying27 hf
    have x0 : xs[0]? = some (xs[0]'(by rw [hlen]; decide)) := List.getElem?_eq_getElem _
    have x1 : xs[1]? = some (xs[1]'(by rw [hlen]; decide)) := List.getElem?_eq_getElem _
    have g0 := (hg 0 _ rfl).trans x0
    have g1 := (hg 1 _ rfl).trans x1
    simp [Value.cells, c64, cSpan] at g0 g1
    obtain ⟨id, e0, _, w0⟩ := DataW.trod_int Tryd.underlying2 g0
    obtain ⟨ys, m, _, _, _, hlen', hg'⟩ := DataW.trod_struct Tryd.underlying23 g1
    have y0 : ys[0]? = some (ys[0]'(by rw [hlen']; decide)) := List.getElem?_eq_getElem _
    have y1 : ys[1]? = some (ys[1]'(by rw [hlen']; decide)) := List.getElem?_eq_getElem _
    have k0 := (hg' 0 _ rfl).trans y0
    have k1 := (hg' 1 _ rfl).trans y1
    simp [c64] at k0 k1
    obtain ⟨i, e1, _, w1⟩ := DataW.trod_int Tryd.underlying2 k0
    obtain ⟨o, e2, _, w2⟩ := DataW.trod_int Tryd.underlying2 k1
    simp at e0 e1 e2
    subst e0 e1 e2
    exact ⟨id, i, o, c3, c4, c5, c6, rfl, w0, w1, w2⟩

theorem open_profile (hv : Value.okWide Tryd.prog w r b0 29 v) (h : DataW.Trod enc Tryd.prog w base spare held 29 v d p) :
    ∃ (g b a : Int) (p0 p1 p2 p3 p7 p8 p9 p10 p11 p12 p13 : Value), v = .agg #[p0, p1, p2, p3, .int .i64 g, .int .i64 b, .int .i64 a, p7, p8, p9, p10, p11, p12, p13] ∧ (Lit.int .i64 g).wf = true ∧ (Lit.int .i64 b).wf = true ∧ (Lit.int .i64 a).wf = true := by
  obtain ⟨cs, rfl, hsz⟩ := okWide_struct Tryd.underlying29 hv
  obtain ⟨l⟩ := cs
  match l, hsz.trans cProfile with
  | [c0, c1, c2, c3, c4, c5, c6, c7, c8, c9, c10, c11, c12, c13], _ =>
    obtain ⟨fuel, hf⟩ := h
    obtain ⟨xs, n, _, _, _, hlen, hg⟩ := DataW.trod_struct Tryd.underlying29 hf
    have x4 : xs[4]? = some (xs[4]'(by rw [hlen]; decide)) := List.getElem?_eq_getElem _
    have x5 : xs[5]? = some (xs[5]'(by rw [hlen]; decide)) := List.getElem?_eq_getElem _
    have x6 : xs[6]? = some (xs[6]'(by rw [hlen]; decide)) := List.getElem?_eq_getElem _
    have g4 := (hg 4 _ rfl).trans x4
    have g5 := (hg 5 _ rfl).trans x5
    have g6 := (hg 6 _ rfl).trans x6
    simp [Value.cells, c64] at g4 g5 g6
    obtain ⟨g, e4, _, w4⟩ := DataW.trod_int Tryd.underlying2 g4
    obtain ⟨b, e5, _, w5⟩ := DataW.trod_int Tryd.underlying2 g5
    obtain ⟨a, e6, _, w6⟩ := DataW.trod_int Tryd.underlying2 g6
    simp at e4 e5 e6
    subst e4 e5 e6
    exact ⟨g, b, a, c0, c1, c2, c3, c7, c8, c9, c10, c11, c12, c13, rfl, w4, w5, w6⟩
end

/-- A slice of int64 that came in reads as a list. -/
theorem open_i64s {H : Type} {enc : TypeId × Value → H} {w : World} {r : Reach} {b0 : Nat} {v : Value} {d : DataW H} {p : List MemPlace}
    (hv : Value.okWide Tryd.prog w r b0 38 v) (h : DataW.Trod enc Tryd.prog w 0 (fun _ => true) true 38 v d p) :
    ∃ (A : Option Addr) (c : Nat) (l : List Int), v = .slice A l.length c ∧ RdI w w.heap.size A l ∧ l.length ≤ c ∧ c ≤ maxLen ∧ ∀ x ∈ l, (Lit.int .i64 x).wf = true := by
  obtain ⟨a, len, cap, rfl⟩ := okWide_slice Tryd.underlying38 hv
  have lt0 : ∀ x ∈ p, x.block < w.heap.size := by obtain ⟨m, hm⟩ := h; exact DataW.trod_lt m _ _ _ hm
  obtain ⟨fuel, hf⟩ := h
  rcases open_ints Tryd.underlying38 Tryd.underlying2 c64 hf with ⟨hcs, _⟩ | ⟨x, l, c, zs, hcs, _, hl, hm, hz, hx, hcell, hwz⟩
  · simp [Value.cells] at hcs
    obtain ⟨rfl, rfl, rfl⟩ := hcs
    exact ⟨none, 0, [], rfl, RdL.nil, Nat.zero_le _, Nat.zero_le _, fun x hx => by simp at hx⟩
  · simp [Value.cells] at hcs
    obtain ⟨rfl, rfl, rfl⟩ := hcs
    have hzl : zs.length = cap := by simpa using hz
    have hlen : (zs.take len).length = len := by rw [List.length_take]; omega
    refine ⟨some x, cap, zs.take len, by rw [hlen], ?_, by omega, hm, fun y hy => hwz y (List.mem_of_mem_take hy)⟩
    by_cases h0 : len = 0
    · exact .inl (by rw [h0]; simp)
    · obtain ⟨b, off, spot⟩ := x
      have hc := hcell 0 (by omega)
      have hspot : spot = none := by simpa [Addr.add] using World.cell?_spot hc
      subst hspot
      have hb : b < w.heap.size := by
        rcases Nat.lt_or_ge b w.heap.size with h1 | h1
        · exact h1
        · simp [Addr.add, World.cell?, Array.getElem?_eq_none h1] at hc
      refine .inr ⟨b, off, rfl, hb, fun i y hy j u hu => ?_⟩
      have hi : i < zs.length ∧ zs[i]? = some y := by
        rw [List.getElem?_take] at hy
        split at hy
        · exact ⟨(List.getElem?_eq_some_iff.1 hy).1, hy⟩
        · cases hy
      cases j with
      | zero =>
        simp [encI] at hu; subst hu
        have := hcell i hi.1
        rw [show zs.getD i 0 = y by simp [List.getD, hi.2]] at this
        rw [← this]
        congr 1
        unfold Addr.add
        split
        · rename_i e0; subst e0; simp
        · simp
      | succ j => simp [encI] at hu
end Go.Proofs.YtncmdhkmbmkiiaaDoor
