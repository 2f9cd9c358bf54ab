/- What a region, lists of numbers and of regions, and a string that came in stand for. No condition. -/
import Derived.Test.YtncmdhkmbmkiiaaDoorLaid3
import Derived.Test.YtncmdhkmbmkiiaaDoorN10a
import Derived.Lib.SmallJoins
import Derived.Deep.Slices
import Derived.Deep.Fields
set_option linter.unusedSimpArgs false
set_option linter.unusedVariables false
namespace Go.Proofs.YtncmdhkmbmkiiaaDoor
open Go.ChangeShapes Go.WideShapes Go.ChangeAt Go.RowKit Go.Joins
set_option maxRecDepth 100000

/-- Every cell that is there. -/
def FA (w : World) : Nat → Nat → Prop := fun b _ => b < w.heap.size
theorem FA_fb (w : World) : FB (cF (FA w)) w := fun _ _ h => h
theorem wf_inR {k : IntKind} {n : Int} (h : (Lit.int k n).wf = true) : inR k n := by
  simp only [Lit.wf, Bool.and_eq_true, decide_eq_true_eq] at h
  cases k <;> simp [IntKind.min, IntKind.max, IntKind.signed, IntKind.bits] at h <;> simp [inR, kLo, kHi] <;> omega
/-- A law that answers true. -/
theorem AFun.law {P : Program} {I : World → Prop} {f : FuncId} {ds : List D} (h : AFun P I f ds (.bool true)) {W : World} {args : List Value} (hI : I W) (hl : args.length = ds.length) (hr : ∀ (i : Nat) v d, args[i]? = some v → ds[i]? = some d → Rep W (cF (FA W)) v d) :
    Calls P f args.toArray W fun e w' => e = .returned (.bool true) ∧ Below W.heap.size W w' := by
  refine (h.2 W (FA W) args hI (FA_fb W) hl hr).mono ?_
  rintro e w' ⟨v, F', rfl, hb, _, _, _, hrep⟩
  cases hrep
  exact ⟨rfl, hb⟩

section
variable {H : Type} {enc : TypeId × Value → H} {w : World} {base : Nat} {spare : Nat → Bool} {held : Bool} {r : Reach} {b0 : Nat} {v : Value} {d : DataW H} {p : List MemPlace}
theorem cRegion : Tryd.prog.cellsOf 48 = 7 := by kernel_rfl
theorem cStr1 : Tryd.prog.cellsOf 9 = 1 := by kernel_rfl
theorem cInt1 : Tryd.prog.cellsOf 3 = 1 := by kernel_rfl
theorem cAl1 : Tryd.prog.cellsOf 46 = 1 := by kernel_rfl
theorem cBool1 : Tryd.prog.cellsOf 4 = 1 := by kernel_rfl
theorem rep_str {C : Cx} (s : ByteArray) (h : s.size ≤ maxLen) : Rep w C (.string s) (.str s.data.toList) := by
  have := Rep.str (w := w) (C := C) s.data.toList (by rw [Array.length_toList]; exact h)
  rwa [str_of] at this
theorem open_rg (hv : Value.okWide Tryd.prog w r b0 48 v) (h : DataW.Trod enc Tryd.prog w base spare held 48 v d p) : ∃ g : Rg, ∀ C : Cx, Rep w C v g.d := by
  obtain ⟨cs, rfl, hsz⟩ := okWide_struct Tryd.underlying48 hv
  obtain ⟨l⟩ := cs
  match l, hsz.trans cRegion with
  | [c0, c1, c2, c3, c4, c5, c6], _ =>
    obtain ⟨fuel, hf⟩ := h
    obtain ⟨xs, n, _, _, _, hlen, hg⟩ := DataW.trod_struct Tryd.underlying48 hf
    have gg : ∀ j (hj : j < 7), xs[j]? = some (xs[j]'(by rw [hlen]; exact hj)) := fun j hj => List.getElem?_eq_getElem _
    have g0 := (hg 0 _ rfl).trans (gg 0 (by decide))
    have g1 := (hg 1 _ rfl).trans (gg 1 (by decide))
    have g2 := (hg 2 _ rfl).trans (gg 2 (by decide))
    have g3 := (hg 3 _ rfl).trans (gg 3 (by decide))
    have g4 := (hg 4 _ rfl).trans (gg 4 (by decide))
    have g5 := (hg 5 _ rfl).trans (gg 5 (by decide))
    have g6 := (hg 6 _ rfl).trans (gg 6 (by decide))
    simp [Value.cells, cStr1, cInt1, cAl1, cBool1] at g0 g1 g2 g3 g4 g5 g6
    obtain ⟨s, e0, _, w0⟩ := DataW.trod_string Tryd.underlying9 g0
    obtain ⟨t1, e1, _, w1⟩ := DataW.trod_int Tryd.underlying3 g1
    obtain ⟨t2, e2, _, w2⟩ := DataW.trod_int Tryd.underlying3 g2
    obtain ⟨t3, e3, _, w3⟩ := DataW.trod_int Tryd.underlying3 g3
    obtain ⟨t4, e4, _, w4⟩ := DataW.trod_int Tryd.underlying3 g4
    obtain ⟨t5, e5, _, w5⟩ := DataW.trod_int Tryd.underlying46 g5
    obtain ⟨b, e6, _⟩ := DataW.trod_bool Tryd.underlying4 g6
    simp at e0 e1 e2 e3 e4 e5 e6
    subst e0 e1 e2 e3 e4 e5 e6
    refine ⟨⟨s.data.toList, t1, t2, t3, t4, t5, b⟩, fun C => ?_⟩
    refine RepL.agg ((RepL.one1 rfl (rep_str s w0)).append ((RepL.one1 rfl (.int _ _ (wf_inR w1))).append ((RepL.one1 rfl (.int _ _ (wf_inR w2))).append ((RepL.one1 rfl (.int _ _ (wf_inR w3))).append ((RepL.one1 rfl (.int _ _ (wf_inR w4))).append ((RepL.one1 rfl (.int _ _ (wf_inR w5))).append (RepL.one1 rfl (.bool b))))))))
theorem flat_ints (l : List Int) : (l.map (D.int .i64)).flatMap D.cells = l.map (D.int .i64) := by
  induction l with
  | nil => rfl
  | cons a t ih => simp only [List.map_cons, List.flatMap_cons, ih, D.cells, List.singleton_append]
theorem open_ints_rep (hv : Value.okWide Tryd.prog w r b0 49 v) (h : DataW.Trod enc Tryd.prog w 0 (fun _ => true) true 49 v d p) : ∃ l : List Int, Rep w (cF (FA w)) v (.sl (l.map (.int .i64))) := by
  obtain ⟨a, len, cap, rfl⟩ := okWide_slice Tryd.underlying49 hv
  obtain ⟨fuel, hf⟩ := h
  rcases open_ints Tryd.underlying49 Tryd.underlying3 cInt1 hf with ⟨hcs, _⟩ | ⟨x, l, c, zs, hcs, _, hl, hm, hz, hx, hcell, hwz⟩
  · simp [Value.cells] at hcs
    obtain ⟨rfl, rfl, rfl⟩ := hcs
    exact ⟨[], .sl0 _ _ (Nat.zero_le _)⟩
  · simp [Value.cells] at hcs
    obtain ⟨rfl, rfl, rfl⟩ := hcs
    have hzl : zs.length = cap := by simpa using hz
    have hlen : (zs.take len).length = len := by rw [List.length_take]; omega
    refine ⟨zs.take len, ?_⟩
    by_cases h0 : len = 0
    · subst h0; simp; exact .sl0 _ _ hm
    · obtain ⟨b, off, spot⟩ := x
      have hc := hcell 0 (by omega)
      have hspot : spot = none := by simpa [Addr.add] using World.cell?_spot hc
      subst hspot
      have hb : b < w.heap.size := by
        rcases Nat.lt_or_ge b w.heap.size with h1 | h1
        · exact h1
        · simp [Addr.add, World.cell?, Array.getElem?_eq_none h1] at hc
      have := Rep.sl (w := w) (C := cF (FA w)) b off 1 cap ((zs.take len).map (D.int .i64)) ((zs.take len).map (Value.int .i64)) (by simp; omega) hm (fun x hx => by obtain ⟨y, _, rfl⟩ := List.mem_map.1 hx; rfl) (by rw [flat_ints]; simp) (fun x hx => by obtain ⟨y, _, rfl⟩ := List.mem_map.1 hx; rfl) (fun _ _ => hb) (fun i u hu => by
        simp only [List.getElem?_map] at hu
        cases hi : (zs.take len)[i]? with
        | none => rw [hi] at hu; simp at hu
        | some y =>
          rw [hi] at hu
          simp at hu
          subst hu
          have hi2 : zs[i]? = some y := by
            rw [List.getElem?_take] at hi
            split at hi
            · exact hi
            · cases hi
          have := hcell i (List.getElem?_eq_some_iff.1 hi2).1
          rw [addr_add, show zs.getD i 0 = y by simp [List.getD, hi2]] at this
          exact this) (fun i u dd hu hd => by
        rw [flat_ints] at hd
        simp only [List.getElem?_map] at hu hd
        cases hi : (zs.take len)[i]? with
        | none => rw [hi] at hu; simp at hu
        | some y =>
          rw [hi] at hu hd
          simp at hu hd
          subst hu hd
          exact .int _ _ (wf_inR (hwz y (List.mem_of_mem_take (List.mem_of_getElem? hi)))))
      rw [List.length_map, hlen] at this
      exact this
end
end Go.Proofs.YtncmdhkmbmkiiaaDoor
