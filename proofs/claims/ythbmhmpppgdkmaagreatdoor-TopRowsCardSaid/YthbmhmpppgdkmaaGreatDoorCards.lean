/-
  DERIVED. GIVEN WITH THE SEED: THE CARDS: each row of YthbmhmpppgdkmaaGreatDoorRows.lean that lists a variable, with what it lists TIED to the program's text (the seventh form; the later family's looks); each row that meets fmt, with fmt's text TOLD by the authors' own Lean function (tested against real Go, not proved from fmt's source: count such statements apart). THE CARD IS WHAT COUNTS. Prove the row's statement (the work); the ties are given (YthbmhmpppgdkmaaGreatDoorTie.lean); close each card by the builder's one call (the guide's Derived/Test/ToyasCard.lean, 'card_holds'). Laid BY PROGRAM, IN A SANDBOX (cutbox-door.mjs). By AI agents, Wed Nov 11 2026. No macro, syntax, notation, axiom, sorry.
-/
import Derived.Test.YthbmhmpppgdkmaaGreatDoorRows
import GoSem.ClaimSeven
namespace Go.Proofs.YthbmhmpppgdkmaaGreatDoor
namespace Rows

/-- THE TIED CARD OF 'captionertop.TopRows'. -/
def topRowsCard : Claim7 := { stood := { row := topRowsRow, standIns := [], harness := (true, "4b609f7b6ac26d0e1cacaab2bc5c9b115f8a1331e23a7b0ffb6bc4d005d8cb93"), looks := true }, kinds := [], alts := [], laidByText := true, laidKinds := [.data, .data, .data, .data, .sentinel, .sentinel, .pinned], laidTests := true, laidLooks := .later }
def TopRowsCardSaid : Prop := Claim7.holds Tryz.pinned (.plain (OpenSpec.ofChange topRowsSpec)) topRowsCard

/-- THE SECOND FORM's CARD OF 'captionertop.TopRows'. -/
def topRowsUptoCard : Claim7 := { stood := { row := topRowsUptoRow, standIns := [], harness := (true, "4b609f7b6ac26d0e1cacaab2bc5c9b115f8a1331e23a7b0ffb6bc4d005d8cb93"), looks := true }, kinds := [], alts := [], laidByText := true, laidKinds := [.data, .data, .data, .data, .sentinel, .sentinel, .pinned], laidTests := true, laidLooks := .later }
def TopRowsUptoCardSaid : Prop := Claim7.holds Tryz.pinned (.plain (OpenSpec.upto topRowsSpec)) topRowsUptoCard
end Rows
end Go.Proofs.YthbmhmpppgdkmaaGreatDoor
