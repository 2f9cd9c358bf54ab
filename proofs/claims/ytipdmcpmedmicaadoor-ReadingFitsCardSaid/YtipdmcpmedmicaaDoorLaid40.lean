/- What the row readingNeeds lists of package-level variables: what the contracts ask of the world, and a world for the witness. Written by a program of mine (laid.py). No condition. -/
import Derived.Test.YtipdmcpmedmicaaDoorCards
import Derived.Test.YtipdmcpmedmicaaDoorTie
import Derived.Test.YtipdmcpmedmicaaDoorGu
import Derived.ProofKit
import Derived.OpenShut
import Derived.Deep.DeepHandedRow
import Derived.Lib.LaidIn
import Derived.Lib.LaidU8T
import Derived.Shelf.Vars
set_option linter.unusedSimpArgs false
set_option linter.unusedVariables false
namespace Go.Proofs.YtipdmcpmedmicaaDoor
open Go.ChangeShapes Go.WideShapes Go.ChangeAt Go.RowKit
set_option maxRecDepth 100000
theorem own : ownKnob Tryd.prog.godebug = none := by kernel_rfl
theorem laidOut : laidOutB Tryd.prog = true := by kernel_rfl
theorem standIn_all (ts : List TypeId) (h : ts.all (fun t => !(Tryd.prog.wantsStandIn t)) = true) (t : TypeId) (ht : t ∈ ts) : Tryd.pinned.checked.prog.wantsStandIn t = false := by
  have := List.all_eq_true.1 h t ht
  exact (show Tryd.prog.wantsStandIn t = false by simpa using this)
def putCells (cs : Array Value) : Obj → Obj
  | .cells _ t frozen => .cells cs t frozen
  | o => o
theorem u8t_of40 {W : World} (h : laidMetH Tryd.prog [("unicode/utf8.acceptRanges", Rows.laid_unicode_utf8_acceptRanges), ("unicode/utf8.first", Rows.laid_unicode_utf8_first)] W) : U8T W :=
  utf8Tabs_of_readsT (U8Types.of196 Tryd.laysValid) ⟨by kernel_rfl, by kernel_rfl, by kernel_rfl, by kernel_rfl, by kernel_rfl, by kernel_rfl, by kernel_rfl⟩ (Lib.laidMet.reads h (.tail _ (.head _))) (Lib.laidMet.reads h (.head _))
theorem cell_keep {w w' : World} {g c : Nat} {v : Value} (h : w.cell? ⟨g, c, none⟩ = some v) (hb : Below w.heap.size w w') : w'.cell? ⟨g, c, none⟩ = some v := by
  have hlt : g < w.heap.size := by
    rcases Nat.lt_or_ge g w.heap.size with h1 | h1
    · exact h1
    · simp [World.cell?, Array.getElem?_eq_none h1] at h
  rw [World.cell?_of_block (hb.block g hlt)]
  exact h
theorem stabU8T : Stab U8T := fun w w' h hb => ⟨fun c hc => cell_keep (h.1 c hc) hb, fun i hi => ⟨cell_keep (h.2 i hi).1 hb, cell_keep (h.2 i hi).2 hb⟩⟩
theorem shp_of {W : World} (h : W.ShapedOpen Tryd.prog) : Shp W :=
  cell_of_shapedOpen_int (k := .i64) (t := 3) (zero := #[.int .i64 0]) h (of_decide_eq_true (by kernel_rfl)) (by kernel_rfl) rfl (by kernel_rfl) (by kernel_rfl) Tryd.underlying3
/-- What the world holds. -/
def Env40 (w : World) : Prop := U8T w ∧ Shp w
theorem stabEnv40 : Stab Env40 := fun w w' ⟨a, b⟩ hb => ⟨stabU8T w w' a hb, stabShp w w' b hb⟩
theorem env_of40 {W : World} (h : laidMetH Tryd.prog [("unicode/utf8.acceptRanges", Rows.laid_unicode_utf8_acceptRanges), ("unicode/utf8.first", Rows.laid_unicode_utf8_first)] W) (hs : W.ShapedOpen Tryd.prog) : Env40 W := ⟨u8t_of40 h, shp_of hs⟩
noncomputable def low40 : Nat := (World.holding Tryd.prog default ⟨#[], #[], []⟩).heap.size
/-- A world for the witness: the settled one, the variables holding what their initialisers lay. -/
noncomputable def laidWorld40 (os : Os) : World :=
  { (World.holding Tryd.prog os ⟨#[], #[], []⟩) with heap := (((World.holding Tryd.prog os ⟨#[], #[], []⟩).heap.modify 1 (putCells #[.int .u8 128, .int .u8 191, .int .u8 160, .int .u8 191, .int .u8 128, .int .u8 159, .int .u8 144, .int .u8 191, .int .u8 128, .int .u8 143, .int .u8 0, .int .u8 0, .int .u8 0, .int .u8 0, .int .u8 0, .int .u8 0, .int .u8 0, .int .u8 0, .int .u8 0, .int .u8 0, .int .u8 0, .int .u8 0, .int .u8 0, .int .u8 0, .int .u8 0, .int .u8 0, .int .u8 0, .int .u8 0, .int .u8 0, .int .u8 0, .int .u8 0, .int .u8 0])).modify 0 (putCells (Pinned.utf8FirstZ.map fun (z : Nat) => Value.int .u8 (z : Int)).toArray)) }
end Go.Proofs.YtipdmcpmedmicaaDoor
