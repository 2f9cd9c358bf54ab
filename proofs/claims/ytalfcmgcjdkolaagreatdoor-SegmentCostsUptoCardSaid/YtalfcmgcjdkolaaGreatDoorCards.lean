/-
  DERIVED. GIVEN WITH THE SEED: THE CARDS: each row of YtalfcmgcjdkolaaGreatDoorRows.lean that lists a variable, with what it lists TIED to the program's text (the seventh form; the later family's looks); each row that meets fmt, with fmt's text TOLD by the authors' own Lean function (tested against real Go, not proved from fmt's source: count such statements apart). THE CARD IS WHAT COUNTS. Prove the row's statement (the work); the ties are given (YtalfcmgcjdkolaaGreatDoorTie.lean); close each card by the builder's one call (the guide's Derived/Test/ToyasCard.lean, 'card_holds'). Laid BY PROGRAM, IN A SANDBOX (cutbox-door.mjs). By AI agents, Wed Nov 11 2026. No macro, syntax, notation, axiom, sorry.
-/
import Derived.Test.YtalfcmgcjdkolaaGreatDoorRows
import GoSem.ClaimSeven
namespace Go.Proofs.YtalfcmgcjdkolaaGreatDoor
namespace Rows

/-- THE TIED CARD OF 'captionerlaw38.SegmentParts'. -/
def segmentPartsCard : Claim7 := { stood := { row := segmentPartsRow, standIns := [], harness := (true, "c5dbc0b926a4f0d74d6da6f9052aa450c631986a294a7f90b1d7be630c4e45bd"), looks := false }, kinds := [], alts := [], laidByText := true, laidKinds := [.data, .pinned], laidTests := true, laidLooks := .later }
def SegmentPartsCardSaid : Prop := Claim7.holds Tryz.pinned (.plain (OpenSpec.ofChange segmentPartsSpec)) segmentPartsCard

/-- THE TIED CARD OF 'captionerlaw38.SegmentDivides'. -/
def segmentDividesCard : Claim7 := { stood := { row := segmentDividesRow, standIns := [], harness := (true, "c5dbc0b926a4f0d74d6da6f9052aa450c631986a294a7f90b1d7be630c4e45bd"), looks := false }, kinds := [], alts := [], laidByText := true, laidKinds := [.data, .pinned], laidTests := true, laidLooks := .later }
def SegmentDividesCardSaid : Prop := Claim7.holds Tryz.pinned (.plain (OpenSpec.ofChange segmentDividesSpec)) segmentDividesCard

/-- THE TIED CARD OF 'captionerlaw38.SegmentCosts'. -/
def segmentCostsCard : Claim7 := { stood := { row := segmentCostsRow, standIns := [], harness := (true, "c5dbc0b926a4f0d74d6da6f9052aa450c631986a294a7f90b1d7be630c4e45bd"), looks := false }, kinds := [], alts := [], laidByText := true, laidKinds := [.data, .pinned], laidTests := true, laidLooks := .later }
def SegmentCostsCardSaid : Prop := Claim7.holds Tryz.pinned (.plain (OpenSpec.ofChange segmentCostsSpec)) segmentCostsCard

/-- THE TIED CARD OF 'captionerlaw38.SegmentWords'. -/
def segmentWordsCard : Claim7 := { stood := { row := segmentWordsRow, standIns := [], harness := (true, "c5dbc0b926a4f0d74d6da6f9052aa450c631986a294a7f90b1d7be630c4e45bd"), looks := false }, kinds := [], alts := [], laidByText := true, laidKinds := [.data, .pinned], laidTests := true, laidLooks := .later }
def SegmentWordsCardSaid : Prop := Claim7.holds Tryz.pinned (.plain (OpenSpec.ofChange segmentWordsSpec)) segmentWordsCard

/-- THE TIED CARD OF 'captionerlaw38.SegmentFits'. -/
def segmentFitsCard : Claim7 := { stood := { row := segmentFitsRow, standIns := [], harness := (true, "c5dbc0b926a4f0d74d6da6f9052aa450c631986a294a7f90b1d7be630c4e45bd"), looks := false }, kinds := [], alts := [], laidByText := true, laidKinds := [.data, .pinned], laidTests := true, laidLooks := .later }
def SegmentFitsCardSaid : Prop := Claim7.holds Tryz.pinned (.plain (OpenSpec.ofChange segmentFitsSpec)) segmentFitsCard

/-- THE SECOND FORM's CARD OF 'captionerlaw38.SegmentParts'. -/
def segmentPartsUptoCard : Claim7 := { stood := { row := segmentPartsUptoRow, standIns := [], harness := (true, "c5dbc0b926a4f0d74d6da6f9052aa450c631986a294a7f90b1d7be630c4e45bd"), looks := false }, kinds := [], alts := [], laidByText := true, laidKinds := [.data, .pinned], laidTests := true, laidLooks := .later }
def SegmentPartsUptoCardSaid : Prop := Claim7.holds Tryz.pinned (.plain (OpenSpec.upto segmentPartsSpec)) segmentPartsUptoCard

/-- THE SECOND FORM's CARD OF 'captionerlaw38.SegmentDivides'. -/
def segmentDividesUptoCard : Claim7 := { stood := { row := segmentDividesUptoRow, standIns := [], harness := (true, "c5dbc0b926a4f0d74d6da6f9052aa450c631986a294a7f90b1d7be630c4e45bd"), looks := false }, kinds := [], alts := [], laidByText := true, laidKinds := [.data, .pinned], laidTests := true, laidLooks := .later }
def SegmentDividesUptoCardSaid : Prop := Claim7.holds Tryz.pinned (.plain (OpenSpec.upto segmentDividesSpec)) segmentDividesUptoCard

/-- THE SECOND FORM's CARD OF 'captionerlaw38.SegmentCosts'. -/
def segmentCostsUptoCard : Claim7 := { stood := { row := segmentCostsUptoRow, standIns := [], harness := (true, "c5dbc0b926a4f0d74d6da6f9052aa450c631986a294a7f90b1d7be630c4e45bd"), looks := false }, kinds := [], alts := [], laidByText := true, laidKinds := [.data, .pinned], laidTests := true, laidLooks := .later }
def SegmentCostsUptoCardSaid : Prop := Claim7.holds Tryz.pinned (.plain (OpenSpec.upto segmentCostsSpec)) segmentCostsUptoCard

/-- THE SECOND FORM's CARD OF 'captionerlaw38.SegmentWords'. -/
def segmentWordsUptoCard : Claim7 := { stood := { row := segmentWordsUptoRow, standIns := [], harness := (true, "c5dbc0b926a4f0d74d6da6f9052aa450c631986a294a7f90b1d7be630c4e45bd"), looks := false }, kinds := [], alts := [], laidByText := true, laidKinds := [.data, .pinned], laidTests := true, laidLooks := .later }
def SegmentWordsUptoCardSaid : Prop := Claim7.holds Tryz.pinned (.plain (OpenSpec.upto segmentWordsSpec)) segmentWordsUptoCard

/-- THE SECOND FORM's CARD OF 'captionerlaw38.SegmentFits'. -/
def segmentFitsUptoCard : Claim7 := { stood := { row := segmentFitsUptoRow, standIns := [], harness := (true, "c5dbc0b926a4f0d74d6da6f9052aa450c631986a294a7f90b1d7be630c4e45bd"), looks := false }, kinds := [], alts := [], laidByText := true, laidKinds := [.data, .pinned], laidTests := true, laidLooks := .later }
def SegmentFitsUptoCardSaid : Prop := Claim7.holds Tryz.pinned (.plain (OpenSpec.upto segmentFitsSpec)) segmentFitsUptoCard
end Rows
end Go.Proofs.YtalfcmgcjdkolaaGreatDoor
