/-
  DERIVED. GIVEN WITH THE SEED: THE CARDS: each row of YtnjjdbljoligdaaGreatDoorRows.lean that lists a variable, with what it lists TIED to the program's text (the seventh form; the later family's looks); each row that meets fmt, with fmt's text TOLD by the authors' own Lean function (tested against real Go, not proved from fmt's source: count such statements apart). THE CARD IS WHAT COUNTS. Prove the row's statement (the work); the ties are given (YtnjjdbljoligdaaGreatDoorTie.lean); close each card by the builder's one call (the guide's Derived/Test/ToyasCard.lean, 'card_holds'). Laid BY PROGRAM, IN A SANDBOX (cutbox-door.mjs). By AI agents, Wed Nov 11 2026. No macro, syntax, notation, axiom, sorry.
-/
import Derived.Test.YtnjjdbljoligdaaGreatDoorRows
import GoSem.ClaimSeven
namespace Go.Proofs.YtnjjdbljoligdaaGreatDoor
namespace Rows

/-- THE TIED CARD OF 'captionerlaw44.EdlChecks'. -/
def edlChecksCard : Claim7 := { stood := { row := edlChecksRow, standIns := [], harness := (true, "988c7214a99650e0c61869addca14138ff23650bdb8dd239b26115ce7d3d2f36"), looks := true }, kinds := [], alts := [], laidByText := true, laidKinds := [.data, .data, .data, .data, .sentinel, .sentinel, .pinned], laidTests := true, laidLooks := .later }
def EdlChecksCardSaid : Prop := Claim7.holds Tryz.pinned (.plain (OpenSpec.ofChange edlChecksSpec)) edlChecksCard

/-- THE TIED CARD OF 'captionerlaw44.EdlReels'. -/
def edlReelsCard : Claim7 := { stood := { row := edlReelsRow, standIns := [], harness := (true, "988c7214a99650e0c61869addca14138ff23650bdb8dd239b26115ce7d3d2f36"), looks := true }, kinds := [], alts := [], laidByText := true, laidKinds := [.data, .data, .data, .data, .sentinel, .sentinel, .pinned], laidTests := true, laidLooks := .later }
def EdlReelsCardSaid : Prop := Claim7.holds Tryz.pinned (.plain (OpenSpec.ofChange edlReelsSpec)) edlReelsCard

/-- THE TIED CARD OF 'captionerlaw44.EdlOrder'. -/
def edlOrderCard : Claim7 := { stood := { row := edlOrderRow, standIns := [], harness := (true, "988c7214a99650e0c61869addca14138ff23650bdb8dd239b26115ce7d3d2f36"), looks := true }, kinds := [], alts := [], laidByText := true, laidKinds := [.data, .data, .data, .data, .sentinel, .sentinel, .pinned], laidTests := true, laidLooks := .later }
def EdlOrderCardSaid : Prop := Claim7.holds Tryz.pinned (.plain (OpenSpec.ofChange edlOrderSpec)) edlOrderCard

/-- THE TIED CARD OF 'captionerlaw44.EdlTexts'. -/
def edlTextsCard : Claim7 := { stood := { row := edlTextsRow, standIns := [], harness := (true, "988c7214a99650e0c61869addca14138ff23650bdb8dd239b26115ce7d3d2f36"), looks := true }, kinds := [], alts := [], laidByText := true, laidKinds := [.data, .data, .data, .data, .sentinel, .sentinel, .pinned], laidTests := true, laidLooks := .later }
def EdlTextsCardSaid : Prop := Claim7.holds Tryz.pinned (.plain (OpenSpec.ofChange edlTextsSpec)) edlTextsCard

/-- THE TIED CARD OF 'captionerlaw44.EdlBack'. -/
def edlBackCard : Claim7 := { stood := { row := edlBackRow, standIns := [], harness := (true, "988c7214a99650e0c61869addca14138ff23650bdb8dd239b26115ce7d3d2f36"), looks := true }, kinds := [], alts := [], laidByText := true, laidKinds := [.data, .data, .data, .data, .sentinel, .sentinel, .pinned], laidTests := true, laidLooks := .later }
def EdlBackCardSaid : Prop := Claim7.holds Tryz.pinned (.plain (OpenSpec.ofChange edlBackSpec)) edlBackCard

/-- THE TIED CARD OF 'captionerlaw44.EdlParses'. -/
def edlParsesCard : Claim7 := { stood := { row := edlParsesRow, standIns := [], harness := (true, "988c7214a99650e0c61869addca14138ff23650bdb8dd239b26115ce7d3d2f36"), looks := true }, kinds := [], alts := [], laidByText := true, laidKinds := [.data, .data, .data, .data, .sentinel, .sentinel, .pinned], laidTests := true, laidLooks := .later }
def EdlParsesCardSaid : Prop := Claim7.holds Tryz.pinned (.plain (OpenSpec.ofChange edlParsesSpec)) edlParsesCard

/-- THE TIED CARD OF 'captionerlaw44.EdlReads'. -/
def edlReadsCard : Claim7 := { stood := { row := edlReadsRow, standIns := [], harness := (true, "988c7214a99650e0c61869addca14138ff23650bdb8dd239b26115ce7d3d2f36"), looks := true }, kinds := [], alts := [], laidByText := true, laidKinds := [.data, .data, .data, .data, .sentinel, .sentinel, .pinned], laidTests := true, laidLooks := .later }
def EdlReadsCardSaid : Prop := Claim7.holds Tryz.pinned (.plain (OpenSpec.ofChange edlReadsSpec)) edlReadsCard

/-- THE SECOND FORM's CARD OF 'captionerlaw44.EdlChecks'. -/
def edlChecksUptoCard : Claim7 := { stood := { row := edlChecksUptoRow, standIns := [], harness := (true, "988c7214a99650e0c61869addca14138ff23650bdb8dd239b26115ce7d3d2f36"), looks := true }, kinds := [], alts := [], laidByText := true, laidKinds := [.data, .data, .data, .data, .sentinel, .sentinel, .pinned], laidTests := true, laidLooks := .later }
def EdlChecksUptoCardSaid : Prop := Claim7.holds Tryz.pinned (.plain (OpenSpec.upto edlChecksSpec)) edlChecksUptoCard

/-- THE SECOND FORM's CARD OF 'captionerlaw44.EdlReels'. -/
def edlReelsUptoCard : Claim7 := { stood := { row := edlReelsUptoRow, standIns := [], harness := (true, "988c7214a99650e0c61869addca14138ff23650bdb8dd239b26115ce7d3d2f36"), looks := true }, kinds := [], alts := [], laidByText := true, laidKinds := [.data, .data, .data, .data, .sentinel, .sentinel, .pinned], laidTests := true, laidLooks := .later }
def EdlReelsUptoCardSaid : Prop := Claim7.holds Tryz.pinned (.plain (OpenSpec.upto edlReelsSpec)) edlReelsUptoCard

/-- THE SECOND FORM's CARD OF 'captionerlaw44.EdlOrder'. -/
def edlOrderUptoCard : Claim7 := { stood := { row := edlOrderUptoRow, standIns := [], harness := (true, "988c7214a99650e0c61869addca14138ff23650bdb8dd239b26115ce7d3d2f36"), looks := true }, kinds := [], alts := [], laidByText := true, laidKinds := [.data, .data, .data, .data, .sentinel, .sentinel, .pinned], laidTests := true, laidLooks := .later }
def EdlOrderUptoCardSaid : Prop := Claim7.holds Tryz.pinned (.plain (OpenSpec.upto edlOrderSpec)) edlOrderUptoCard

/-- THE SECOND FORM's CARD OF 'captionerlaw44.EdlTexts'. -/
def edlTextsUptoCard : Claim7 := { stood := { row := edlTextsUptoRow, standIns := [], harness := (true, "988c7214a99650e0c61869addca14138ff23650bdb8dd239b26115ce7d3d2f36"), looks := true }, kinds := [], alts := [], laidByText := true, laidKinds := [.data, .data, .data, .data, .sentinel, .sentinel, .pinned], laidTests := true, laidLooks := .later }
def EdlTextsUptoCardSaid : Prop := Claim7.holds Tryz.pinned (.plain (OpenSpec.upto edlTextsSpec)) edlTextsUptoCard

/-- THE SECOND FORM's CARD OF 'captionerlaw44.EdlBack'. -/
def edlBackUptoCard : Claim7 := { stood := { row := edlBackUptoRow, standIns := [], harness := (true, "988c7214a99650e0c61869addca14138ff23650bdb8dd239b26115ce7d3d2f36"), looks := true }, kinds := [], alts := [], laidByText := true, laidKinds := [.data, .data, .data, .data, .sentinel, .sentinel, .pinned], laidTests := true, laidLooks := .later }
def EdlBackUptoCardSaid : Prop := Claim7.holds Tryz.pinned (.plain (OpenSpec.upto edlBackSpec)) edlBackUptoCard

/-- THE SECOND FORM's CARD OF 'captionerlaw44.EdlParses'. -/
def edlParsesUptoCard : Claim7 := { stood := { row := edlParsesUptoRow, standIns := [], harness := (true, "988c7214a99650e0c61869addca14138ff23650bdb8dd239b26115ce7d3d2f36"), looks := true }, kinds := [], alts := [], laidByText := true, laidKinds := [.data, .data, .data, .data, .sentinel, .sentinel, .pinned], laidTests := true, laidLooks := .later }
def EdlParsesUptoCardSaid : Prop := Claim7.holds Tryz.pinned (.plain (OpenSpec.upto edlParsesSpec)) edlParsesUptoCard

/-- THE SECOND FORM's CARD OF 'captionerlaw44.EdlReads'. -/
def edlReadsUptoCard : Claim7 := { stood := { row := edlReadsUptoRow, standIns := [], harness := (true, "988c7214a99650e0c61869addca14138ff23650bdb8dd239b26115ce7d3d2f36"), looks := true }, kinds := [], alts := [], laidByText := true, laidKinds := [.data, .data, .data, .data, .sentinel, .sentinel, .pinned], laidTests := true, laidLooks := .later }
def EdlReadsUptoCardSaid : Prop := Claim7.holds Tryz.pinned (.plain (OpenSpec.upto edlReadsSpec)) edlReadsUptoCard
end Rows
end Go.Proofs.YtnjjdbljoligdaaGreatDoor
