/-
  DERIVED. GIVEN WITH THE SEED: THE CARDS: each row of YtalfcmgcjdkolaaDoorRows.lean that lists a variable, with what it lists TIED to the program's text (the seventh form; the later family's looks); each row that meets fmt, with fmt's text TOLD by the authors' own Lean function (tested against real Go, not proved from fmt's source: count such statements apart). THE CARD IS WHAT COUNTS. Prove the row's statement (the work); the ties are given (YtalfcmgcjdkolaaDoorTie.lean); close each card by the builder's one call (the guide's Derived/Test/ToyasCard.lean, 'card_holds'). Laid BY PROGRAM, IN A SANDBOX (cutbox-door.mjs). By AI agents, Wed Nov 11 2026. No macro, syntax, notation, axiom, sorry.
-/
import Derived.Test.YtalfcmgcjdkolaaDoorRows
import GoSem.ClaimSeven
namespace Go.Proofs.YtalfcmgcjdkolaaDoor
namespace Rows

/-- THE TIED CARD OF 'captionerlaw38.SegmentLeast'. -/
def segmentLeastCard : Claim7 := { stood := { row := segmentLeastRow, standIns := [], harness := (true, "56a6be8c7329e2f4ef8c1162189734892e7afe2b0fdf2f80da6f0be8a63cfa35"), looks := false }, kinds := [], alts := [], laidByText := true, laidKinds := [.data, .pinned], laidTests := true, laidLooks := .later }
def SegmentLeastCardSaid : Prop := Claim7.holds Tryd.pinned (.plain (OpenSpec.ofChange segmentLeastSpec)) segmentLeastCard

/-- THE TIED CARD OF 'captionerlaw38.SegmentProves'. -/
def segmentProvesCard : Claim7 := { stood := { row := segmentProvesRow, standIns := [], harness := (true, "56a6be8c7329e2f4ef8c1162189734892e7afe2b0fdf2f80da6f0be8a63cfa35"), looks := false }, kinds := [], alts := [], laidByText := true, laidKinds := [.data, .pinned], laidTests := true, laidLooks := .later }
def SegmentProvesCardSaid : Prop := Claim7.holds Tryd.pinned (.plain (OpenSpec.ofChange segmentProvesSpec)) segmentProvesCard

/-- THE TIED CARD OF 'captionerlaw38.SegmentSound'. -/
def segmentSoundCard : Claim7 := { stood := { row := segmentSoundRow, standIns := [], harness := (true, "56a6be8c7329e2f4ef8c1162189734892e7afe2b0fdf2f80da6f0be8a63cfa35"), looks := false }, kinds := [], alts := [], laidByText := true, laidKinds := [.data, .pinned], laidTests := true, laidLooks := .later }
def SegmentSoundCardSaid : Prop := Claim7.holds Tryd.pinned (.plain (OpenSpec.ofChange segmentSoundSpec)) segmentSoundCard

/-- THE SECOND FORM's CARD OF 'captionerlaw38.SegmentLeast'. -/
def segmentLeastUptoCard : Claim7 := { stood := { row := segmentLeastUptoRow, standIns := [], harness := (true, "56a6be8c7329e2f4ef8c1162189734892e7afe2b0fdf2f80da6f0be8a63cfa35"), looks := false }, kinds := [], alts := [], laidByText := true, laidKinds := [.data, .pinned], laidTests := true, laidLooks := .later }
def SegmentLeastUptoCardSaid : Prop := Claim7.holds Tryd.pinned (.plain (OpenSpec.upto segmentLeastSpec)) segmentLeastUptoCard

/-- THE SECOND FORM's CARD OF 'captionerlaw38.SegmentProves'. -/
def segmentProvesUptoCard : Claim7 := { stood := { row := segmentProvesUptoRow, standIns := [], harness := (true, "56a6be8c7329e2f4ef8c1162189734892e7afe2b0fdf2f80da6f0be8a63cfa35"), looks := false }, kinds := [], alts := [], laidByText := true, laidKinds := [.data, .pinned], laidTests := true, laidLooks := .later }
def SegmentProvesUptoCardSaid : Prop := Claim7.holds Tryd.pinned (.plain (OpenSpec.upto segmentProvesSpec)) segmentProvesUptoCard

/-- THE SECOND FORM's CARD OF 'captionerlaw38.SegmentSound'. -/
def segmentSoundUptoCard : Claim7 := { stood := { row := segmentSoundUptoRow, standIns := [], harness := (true, "56a6be8c7329e2f4ef8c1162189734892e7afe2b0fdf2f80da6f0be8a63cfa35"), looks := false }, kinds := [], alts := [], laidByText := true, laidKinds := [.data, .pinned], laidTests := true, laidLooks := .later }
def SegmentSoundUptoCardSaid : Prop := Claim7.holds Tryd.pinned (.plain (OpenSpec.upto segmentSoundSpec)) segmentSoundUptoCard
end Rows
end Go.Proofs.YtalfcmgcjdkolaaDoor
