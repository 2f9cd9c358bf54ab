/-
  DERIVED. GIVEN WITH THE SEED: THE CARDS: each row of YtedhognhhcihpaaDoorRows.lean that lists a variable, with what it lists TIED to the program's text (the seventh form; the later family's looks); each row that meets fmt, with fmt's text TOLD by the authors' own Lean function (tested against real Go, not proved from fmt's source: count such statements apart). THE CARD IS WHAT COUNTS. Prove the row's statement (the work); the ties are given (YtedhognhhcihpaaDoorTie.lean); close each card by the builder's one call (the guide's Derived/Test/ToyasCard.lean, 'card_holds'). Laid BY PROGRAM, IN A SANDBOX (cutbox-door.mjs). By AI agents, Wed Nov 11 2026. No macro, syntax, notation, axiom, sorry.
-/
import Derived.Test.YtedhognhhcihpaaDoorRows
import GoSem.ClaimSeven
namespace Go.Proofs.YtedhognhhcihpaaDoor
namespace Rows

/-- THE TIED CARD OF 'captionerlaw39.ProfileAgain'. -/
def profileAgainCard : Claim7 := { stood := { row := profileAgainRow, standIns := [], harness := (true, "84d5bab80813630758b6fd3f482afbaba60ade7d25ce219b5b678bf3d85b2344"), looks := true }, kinds := [], alts := [], laidByText := true, laidKinds := [.data, .data, .data, .data, .sentinel, .sentinel, .pinned], laidTests := true, laidLooks := .later }
def ProfileAgainCardSaid : Prop := Claim7.holds Tryd.pinned (.plain (OpenSpec.ofChange profileAgainSpec)) profileAgainCard

/-- THE SECOND FORM's CARD OF 'captionerlaw39.ProfileAgain'. -/
def profileAgainUptoCard : Claim7 := { stood := { row := profileAgainUptoRow, standIns := [], harness := (true, "84d5bab80813630758b6fd3f482afbaba60ade7d25ce219b5b678bf3d85b2344"), looks := true }, kinds := [], alts := [], laidByText := true, laidKinds := [.data, .data, .data, .data, .sentinel, .sentinel, .pinned], laidTests := true, laidLooks := .later }
def ProfileAgainUptoCardSaid : Prop := Claim7.holds Tryd.pinned (.plain (OpenSpec.upto profileAgainSpec)) profileAgainUptoCard
end Rows
end Go.Proofs.YtedhognhhcihpaaDoor
