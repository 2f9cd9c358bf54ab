/- From a contract of the concrete kind to one of the abstract kind; the world's table. -/
import Derived.Test.YtncmdhkmbmkiiaaDoorTy
import Derived.Test.YtncmdhkmbmkiiaaDoorName07
import Derived.Test.YtncmdhkmbmkiiaaDoorText41
set_option linter.unusedSimpArgs false
set_option linter.unusedVariables false
namespace Go.Proofs.YtncmdhkmbmkiiaaDoor
open Go.RowKit

section
variable {P : Program} {I : World → Prop} {f : FuncId} {ds : List D} {d : D} {v : Value}
/-- A contract whose result lies in no block. -/
theorem AFun.of_calls (he : enterable P f = true) (hv : ∀ w F, Rep w (cF F) v d)
    (h : ∀ (w : World) (F : Nat → Nat → Prop) (args : List Value), I w → FB (cF F) w → args.length = ds.length → (∀ (i : Nat) v d, args[i]? = some v → ds[i]? = some d → Rep w (cF F) v d) → Calls P f args.toArray w fun e w' => e = .returned v ∧ Below w.heap.size w w') : AFun P I f ds d := by
  refine ⟨he, fun w F args hI hfb hl hr => ?_⟩
  refine (h w F args hI hfb hl hr).mono ?_
  rintro e w' ⟨rfl, hb⟩
  exact ⟨v, F, rfl, hb, ⟨fun _ _ h => h, fun b o hF => World.cell?_of_block (hb.block b (hfb b o hF)), fun _ h => h, fun _ _ => rfl⟩, fun b o hF => Nat.lt_of_lt_of_le (hfb b o hF) hb.size, fun _ _ h => .inl h, hv w' F⟩
end
theorem rep_int1 {w : World} {C : Cx} {v : Value} {k : IntKind} {n : Int} (h : Rep w C v (.int k n)) : v = .int k n := by cases h; rfl
theorem rep_str1 {w : World} {C : Cx} {v : Value} {s : List UInt8} (h : Rep w C v (.str s)) : v = .string ⟨s.toArray⟩ ∧ s.length ≤ maxLen := by cases h; exact ⟨rfl, by assumption⟩

/-- The table of powers of ten is there. -/
theorem stabTab : Stab Tab := fun _ _ h hb => tab_below h hb

theorem a_Decimal (n : Int) (h0 : -9223372036854775808 ≤ n) (h1 : n ≤ 9223372036854775807) : AFun Tryd.prog Tab 53 [.int .i64 n] (.str (Lib.itoa n)) := by
  refine AFun.of_calls (v := .string (decB n)) (by kernel_rfl) (fun w F => .str _ (by have := Lib.itoa_length_le n h0 h1; unfold maxLen; omega)) ?_
  intro w F args hI _ hl hr
  match args, hl with
  | [v], _ =>
    obtain rfl := rep_int1 (hr 0 v _ rfl rfl)
    exact lines_Decimal n h0 h1 w hI
theorem a_lines_Name (I : World → Prop) (s : List UInt8) : AFun Tryd.prog I 51 [.str s] (.bool (nameB s)) := by
  refine AFun.of_calls (v := .bool (nameB s)) (by kernel_rfl) (fun w F => .bool _) ?_
  intro w F args hI _ hl hr
  match args, hl with
  | [v], _ =>
    obtain ⟨rfl, hs⟩ := rep_str1 (hr 0 v _ rfl rfl)
    refine (lines_Name ⟨s.toArray⟩ w (by rw [bsize]; exact hs)).mono ?_
    rintro e w' ⟨rfl, rfl⟩
    exact ⟨rfl, Below.refl _ _⟩
theorem a_ref07_Name (I : World → Prop) (s : List UInt8) : AFun Tryd.prog I 52 [.str s] (.bool (nameB s)) := by
  refine AFun.of_calls (v := .bool (nameB s)) (by kernel_rfl) (fun w F => .bool _) ?_
  intro w F args hI _ hl hr
  match args, hl with
  | [v], _ =>
    obtain ⟨rfl, hs⟩ := rep_str1 (hr 0 v _ rfl rfl)
    refine (ref07_Name ⟨s.toArray⟩ w (by rw [bsize]; exact hs)).mono ?_
    rintro e w' ⟨rfl, rfl⟩
    exact ⟨rfl, Below.refl _ _⟩
end Go.Proofs.YtncmdhkmbmkiiaaDoor
