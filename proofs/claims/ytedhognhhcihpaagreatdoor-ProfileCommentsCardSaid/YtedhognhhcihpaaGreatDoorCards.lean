/-
  DERIVED. GIVEN WITH THE SEED: THE CARDS: each row of YtedhognhhcihpaaGreatDoorRows.lean that lists a variable, with what it lists TIED to the program's text (the seventh form; the later family's looks); each row that meets fmt, with fmt's text TOLD by the authors' own Lean function (tested against real Go, not proved from fmt's source: count such statements apart). THE CARD IS WHAT COUNTS. Prove the row's statement (the work); the ties are given (YtedhognhhcihpaaGreatDoorTie.lean); close each card by the builder's one call (the guide's Derived/Test/ToyasCard.lean, 'card_holds'). Laid BY PROGRAM, IN A SANDBOX (cutbox-door.mjs). By AI agents, Wed Nov 11 2026. No macro, syntax, notation, axiom, sorry.
-/
import Derived.Test.YtedhognhhcihpaaGreatDoorRows
import GoSem.ClaimSeven
namespace Go.Proofs.YtedhognhhcihpaaGreatDoor
namespace Rows

/-- THE TIED CARD OF 'captionerlaw39.ProfileChecks'. -/
def profileChecksCard : Claim7 := { stood := { row := profileChecksRow, standIns := [], harness := (true, "7ececce8a43d798c988ba1657e57c9088f3cd6ec448b10e2832000214a7ff088"), looks := true }, kinds := [], alts := [], laidByText := true, laidKinds := [.data, .data, .data, .data, .sentinel, .sentinel, .pinned], laidTests := true, laidLooks := .later }
def ProfileChecksCardSaid : Prop := Claim7.holds Tryz.pinned (.plain (OpenSpec.ofChange profileChecksSpec)) profileChecksCard

/-- THE TIED CARD OF 'captionerlaw39.ProfileTexts'. -/
def profileTextsCard : Claim7 := { stood := { row := profileTextsRow, standIns := [], harness := (true, "7ececce8a43d798c988ba1657e57c9088f3cd6ec448b10e2832000214a7ff088"), looks := true }, kinds := [], alts := [], laidByText := true, laidKinds := [.data, .data, .data, .data, .sentinel, .sentinel, .pinned], laidTests := true, laidLooks := .later }
def ProfileTextsCardSaid : Prop := Claim7.holds Tryz.pinned (.plain (OpenSpec.ofChange profileTextsSpec)) profileTextsCard

/-- THE TIED CARD OF 'captionerlaw39.ProfileParses'. -/
def profileParsesCard : Claim7 := { stood := { row := profileParsesRow, standIns := [], harness := (true, "7ececce8a43d798c988ba1657e57c9088f3cd6ec448b10e2832000214a7ff088"), looks := true }, kinds := [], alts := [], laidByText := true, laidKinds := [.data, .data, .data, .data, .sentinel, .sentinel, .pinned], laidTests := true, laidLooks := .later }
def ProfileParsesCardSaid : Prop := Claim7.holds Tryz.pinned (.plain (OpenSpec.ofChange profileParsesSpec)) profileParsesCard

/-- THE TIED CARD OF 'captionerlaw39.ProfileComments'. -/
def profileCommentsCard : Claim7 := { stood := { row := profileCommentsRow, standIns := [], harness := (true, "7ececce8a43d798c988ba1657e57c9088f3cd6ec448b10e2832000214a7ff088"), looks := true }, kinds := [], alts := [], laidByText := true, laidKinds := [.data, .data, .data, .data, .sentinel, .sentinel, .pinned], laidTests := true, laidLooks := .later }
def ProfileCommentsCardSaid : Prop := Claim7.holds Tryz.pinned (.plain (OpenSpec.ofChange profileCommentsSpec)) profileCommentsCard

/-- THE SECOND FORM's CARD OF 'captionerlaw39.ProfileChecks'. -/
def profileChecksUptoCard : Claim7 := { stood := { row := profileChecksUptoRow, standIns := [], harness := (true, "7ececce8a43d798c988ba1657e57c9088f3cd6ec448b10e2832000214a7ff088"), looks := true }, kinds := [], alts := [], laidByText := true, laidKinds := [.data, .data, .data, .data, .sentinel, .sentinel, .pinned], laidTests := true, laidLooks := .later }
def ProfileChecksUptoCardSaid : Prop := Claim7.holds Tryz.pinned (.plain (OpenSpec.upto profileChecksSpec)) profileChecksUptoCard

/-- THE SECOND FORM's CARD OF 'captionerlaw39.ProfileTexts'. -/
def profileTextsUptoCard : Claim7 := { stood := { row := profileTextsUptoRow, standIns := [], harness := (true, "7ececce8a43d798c988ba1657e57c9088f3cd6ec448b10e2832000214a7ff088"), looks := true }, kinds := [], alts := [], laidByText := true, laidKinds := [.data, .data, .data, .data, .sentinel, .sentinel, .pinned], laidTests := true, laidLooks := .later }
def ProfileTextsUptoCardSaid : Prop := Claim7.holds Tryz.pinned (.plain (OpenSpec.upto profileTextsSpec)) profileTextsUptoCard

/-- THE SECOND FORM's CARD OF 'captionerlaw39.ProfileParses'. -/
def profileParsesUptoCard : Claim7 := { stood := { row := profileParsesUptoRow, standIns := [], harness := (true, "7ececce8a43d798c988ba1657e57c9088f3cd6ec448b10e2832000214a7ff088"), looks := true }, kinds := [], alts := [], laidByText := true, laidKinds := [.data, .data, .data, .data, .sentinel, .sentinel, .pinned], laidTests := true, laidLooks := .later }
def ProfileParsesUptoCardSaid : Prop := Claim7.holds Tryz.pinned (.plain (OpenSpec.upto profileParsesSpec)) profileParsesUptoCard

/-- THE SECOND FORM's CARD OF 'captionerlaw39.ProfileComments'. -/
def profileCommentsUptoCard : Claim7 := { stood := { row := profileCommentsUptoRow, standIns := [], harness := (true, "7ececce8a43d798c988ba1657e57c9088f3cd6ec448b10e2832000214a7ff088"), looks := true }, kinds := [], alts := [], laidByText := true, laidKinds := [.data, .data, .data, .data, .sentinel, .sentinel, .pinned], laidTests := true, laidLooks := .later }
def ProfileCommentsUptoCardSaid : Prop := Claim7.holds Tryz.pinned (.plain (OpenSpec.upto profileCommentsSpec)) profileCommentsUptoCard
end Rows
end Go.Proofs.YtedhognhhcihpaaGreatDoor
