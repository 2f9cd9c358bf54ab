/- From a contract of the concrete kind to one of the abstract kind; the world's table. -/
import Derived.Test.YtipdmcpmedmicaaDoorFwX
import Derived.Test.YtipdmcpmedmicaaDoorTy
import Derived.Test.YtipdmcpmedmicaaDoorTab
set_option linter.unusedSimpArgs false
set_option linter.unusedVariables false
namespace Go.Proofs.YtipdmcpmedmicaaDoor
open Go.RowKit

/-- All rules. -/
theorem vt : type_of% (And.intro vz tys) := And.intro vz tys
section
variable {P : Program} {I : World → Prop} {f : FuncId} {ds : List D} {d : D} {v : Value}
/-- A contract whose result lies in no block. -/
theorem AFun.of_calls (he : enterable P f = true) (hv : ∀ w F, Rep w (cF F) v d)
    (h : ∀ (w : World) (F : Nat → Nat → Prop) (args : List Value), I w → FB (cF F) w → args.length = ds.length → (∀ (i : Nat) v d, args[i]? = some v → ds[i]? = some d → Rep w (cF F) v d) → Calls P f args.toArray w fun e w' => e = .returned v ∧ Below w.heap.size w w') : AFun P I f ds d := by
  refine ⟨he, fun w F args hI hfb hl hr => ?_⟩
  refine (h w F args hI hfb hl hr).mono ?_
  rintro e w' ⟨rfl, hb⟩
  exact ⟨v, F, rfl, hb, ⟨fun _ _ h => h, fun b o hF => hb.block b (hfb b o hF), fun _ h => h, fun _ _ => rfl⟩, fun b o hF => Nat.lt_of_lt_of_le (hfb b o hF) hb.size, fun _ _ h => .inl h, hv w' F⟩
end
theorem rep_int1 {w : World} {C : Cx} {v : Value} {k : IntKind} {n : Int} (h : Rep w C v (.int k n)) : v = .int k n := by cases h; rfl
theorem rep_str1 {w : World} {C : Cx} {v : Value} {s : List UInt8} (h : Rep w C v (.str s)) : v = .string ⟨s.toArray⟩ ∧ s.length ≤ maxLen := by cases h; exact ⟨rfl, by assumption⟩

/-- The table of powers of ten is there. -/
theorem stabTab : Stab Tab := fun _ _ h hb => tab_below h hb

end Go.Proofs.YtipdmcpmedmicaaDoor
