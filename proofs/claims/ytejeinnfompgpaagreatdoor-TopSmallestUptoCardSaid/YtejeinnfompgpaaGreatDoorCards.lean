/-
  DERIVED. GIVEN WITH THE SEED: THE CARDS: each row of YtejeinnfompgpaaGreatDoorRows.lean that lists a variable, with what it lists TIED to the program's text (the seventh form; the later family's looks); each row that meets fmt, with fmt's text TOLD by the authors' own Lean function (tested against real Go, not proved from fmt's source: count such statements apart). THE CARD IS WHAT COUNTS. Prove the row's statement (the work); the ties are given (YtejeinnfompgpaaGreatDoorTie.lean); close each card by the builder's one call (the guide's Derived/Test/ToyasCard.lean, 'card_holds'). Laid BY PROGRAM, IN A SANDBOX (cutbox-door.mjs). By AI agents, Wed Nov 11 2026. No macro, syntax, notation, axiom, sorry.
-/
import Derived.Test.YtejeinnfompgpaaGreatDoorRows
import GoSem.ClaimSeven
namespace Go.Proofs.YtejeinnfompgpaaGreatDoor
namespace Rows

/-- THE TIED CARD OF 'captionertop.TopSmallest'. -/
def topSmallestCard : Claim7 := { stood := { row := topSmallestRow, standIns := [], harness := (true, "bf9dadc945d40c25469236dcb8619c56a73364144d164c9d00f161d05b05283a"), looks := true }, kinds := [], alts := [], laidByText := true, laidKinds := [.data, .data, .data, .data, .sentinel, .sentinel, .pinned], laidTests := true, laidLooks := .later }
def TopSmallestCardSaid : Prop := Claim7.holds Tryz.pinned (.plain (OpenSpec.ofChange topSmallestSpec)) topSmallestCard

/-- THE SECOND FORM's CARD OF 'captionertop.TopSmallest'. -/
def topSmallestUptoCard : Claim7 := { stood := { row := topSmallestUptoRow, standIns := [], harness := (true, "bf9dadc945d40c25469236dcb8619c56a73364144d164c9d00f161d05b05283a"), looks := true }, kinds := [], alts := [], laidByText := true, laidKinds := [.data, .data, .data, .data, .sentinel, .sentinel, .pinned], laidTests := true, laidLooks := .later }
def TopSmallestUptoCardSaid : Prop := Claim7.holds Tryz.pinned (.plain (OpenSpec.upto topSmallestSpec)) topSmallestUptoCard
end Rows
end Go.Proofs.YtejeinnfompgpaaGreatDoor
