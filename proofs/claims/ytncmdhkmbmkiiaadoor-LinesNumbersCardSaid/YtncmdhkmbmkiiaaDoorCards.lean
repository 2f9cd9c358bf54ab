/-
  DERIVED. GIVEN WITH THE SEED: THE CARDS: each row of YtncmdhkmbmkiiaaDoorRows.lean that lists a variable, with what it lists TIED to the program's text (the seventh form; the later family's looks); each row that meets fmt, with fmt's text TOLD by the authors' own Lean function (tested against real Go, not proved from fmt's source: count such statements apart). THE CARD IS WHAT COUNTS. Prove the row's statement (the work); the ties are given (YtncmdhkmbmkiiaaDoorTie.lean); close each card by the builder's one call (the guide's Derived/Test/ToyasCard.lean, 'card_holds'). Laid BY PROGRAM, IN A SANDBOX (cutbox-door.mjs). By AI agents, Wed Nov 11 2026. No macro, syntax, notation, axiom, sorry.
-/
import Derived.Test.YtncmdhkmbmkiiaaDoorRows
import GoSem.ClaimSeven
namespace Go.Proofs.YtncmdhkmbmkiiaaDoor
namespace Rows

/-- THE TIED CARD OF 'captionerlaw41.RulesPairs'. -/
def rulesPairsCard : Claim7 := { stood := { row := rulesPairsRow, standIns := [], harness := (true, "375f85504e84abd8e1a1459378a09889151169173569b8815e1747a9461e71fa"), looks := true }, kinds := [], alts := [], laidByText := true, laidKinds := [.data, .data, .data], laidTests := true, laidLooks := .later }
def RulesPairsCardSaid : Prop := Claim7.holds Tryd.pinned (.plain (OpenSpec.ofChange rulesPairsSpec)) rulesPairsCard

/-- THE TIED CARD OF 'captionerlaw41.RulesShots'. -/
def rulesShotsCard : Claim7 := { stood := { row := rulesShotsRow, standIns := [], harness := (true, "375f85504e84abd8e1a1459378a09889151169173569b8815e1747a9461e71fa"), looks := true }, kinds := [], alts := [], laidByText := true, laidKinds := [.data, .data, .data], laidTests := true, laidLooks := .later }
def RulesShotsCardSaid : Prop := Claim7.holds Tryd.pinned (.plain (OpenSpec.ofChange rulesShotsSpec)) rulesShotsCard

/-- THE TIED CARD OF 'captionerlaw41.RulesApart'. -/
def rulesApartCard : Claim7 := { stood := { row := rulesApartRow, standIns := [], harness := (true, "375f85504e84abd8e1a1459378a09889151169173569b8815e1747a9461e71fa"), looks := true }, kinds := [], alts := [], laidByText := true, laidKinds := [.data, .data, .data], laidTests := true, laidLooks := .later }
def RulesApartCardSaid : Prop := Claim7.holds Tryd.pinned (.plain (OpenSpec.ofChange rulesApartSpec)) rulesApartCard

/-- THE TIED CARD OF 'captionerlaw41.RulesClear'. -/
def rulesClearCard : Claim7 := { stood := { row := rulesClearRow, standIns := [], harness := (true, "375f85504e84abd8e1a1459378a09889151169173569b8815e1747a9461e71fa"), looks := true }, kinds := [], alts := [], laidByText := true, laidKinds := [.data, .data, .data], laidTests := true, laidLooks := .later }
def RulesClearCardSaid : Prop := Claim7.holds Tryd.pinned (.plain (OpenSpec.ofChange rulesClearSpec)) rulesClearCard

/-- THE TIED CARD OF 'captionerlaw10.RegionPlaces'. -/
def regionPlacesCard : Claim7 := { stood := { row := regionPlacesRow, standIns := [], harness := (true, "375f85504e84abd8e1a1459378a09889151169173569b8815e1747a9461e71fa"), looks := true }, kinds := [], alts := [], laidByText := true, laidKinds := [.data, .data, .data], laidTests := true, laidLooks := .later }
def RegionPlacesCardSaid : Prop := Claim7.holds Tryd.pinned (.plain (OpenSpec.ofChange regionPlacesSpec)) regionPlacesCard

/-- THE TIED CARD OF 'captionerlaw10.RegionCells'. -/
def regionCellsCard : Claim7 := { stood := { row := regionCellsRow, standIns := [], harness := (true, "375f85504e84abd8e1a1459378a09889151169173569b8815e1747a9461e71fa"), looks := true }, kinds := [], alts := [], laidByText := true, laidKinds := [.data, .data, .data], laidTests := true, laidLooks := .later }
def RegionCellsCardSaid : Prop := Claim7.holds Tryd.pinned (.plain (OpenSpec.ofChange regionCellsSpec)) regionCellsCard

/-- THE TIED CARD OF 'captionerlaw10.RegionChecks'. -/
def regionChecksCard : Claim7 := { stood := { row := regionChecksRow, standIns := [], harness := (true, "375f85504e84abd8e1a1459378a09889151169173569b8815e1747a9461e71fa"), looks := true }, kinds := [], alts := [], laidByText := true, laidKinds := [.data, .data, .data], laidTests := true, laidLooks := .later }
def RegionChecksCardSaid : Prop := Claim7.holds Tryd.pinned (.plain (OpenSpec.ofChange regionChecksSpec)) regionChecksCard

/-- THE TIED CARD OF 'captionerlaw07.LinesSplits'. -/
def linesSplitsCard : Claim7 := { stood := { row := linesSplitsRow, standIns := [], harness := (true, "375f85504e84abd8e1a1459378a09889151169173569b8815e1747a9461e71fa"), looks := true }, kinds := [], alts := [], laidByText := true, laidKinds := [.data, .data, .data, .data, .sentinel, .sentinel, .pinned], laidTests := true, laidLooks := .later }
def LinesSplitsCardSaid : Prop := Claim7.holds Tryd.pinned (.plain (OpenSpec.ofChange linesSplitsSpec)) linesSplitsCard

/-- THE TIED CARD OF 'captionerlaw07.LinesLong'. -/
def linesLongCard : Claim7 := { stood := { row := linesLongRow, standIns := [], harness := (true, "375f85504e84abd8e1a1459378a09889151169173569b8815e1747a9461e71fa"), looks := true }, kinds := [], alts := [], laidByText := true, laidKinds := [.data, .data, .data, .data, .sentinel, .sentinel, .pinned], laidTests := true, laidLooks := .later }
def LinesLongCardSaid : Prop := Claim7.holds Tryd.pinned (.plain (OpenSpec.ofChange linesLongSpec)) linesLongCard

/-- THE TIED CARD OF 'captionerlaw07.LinesColumns'. -/
def linesColumnsCard : Claim7 := { stood := { row := linesColumnsRow, standIns := [], harness := (true, "375f85504e84abd8e1a1459378a09889151169173569b8815e1747a9461e71fa"), looks := true }, kinds := [], alts := [], laidByText := true, laidKinds := [.data, .data, .data, .data, .sentinel, .sentinel, .pinned], laidTests := true, laidLooks := .later }
def LinesColumnsCardSaid : Prop := Claim7.holds Tryd.pinned (.plain (OpenSpec.ofChange linesColumnsSpec)) linesColumnsCard

/-- THE TIED CARD OF 'captionerlaw07.LinesQuotes'. -/
def linesQuotesCard : Claim7 := { stood := { row := linesQuotesRow, standIns := [], harness := (true, "375f85504e84abd8e1a1459378a09889151169173569b8815e1747a9461e71fa"), looks := true }, kinds := [], alts := [], laidByText := true, laidKinds := [.data, .data, .data, .data, .sentinel, .sentinel, .pinned], laidTests := true, laidLooks := .later }
def LinesQuotesCardSaid : Prop := Claim7.holds Tryd.pinned (.plain (OpenSpec.ofChange linesQuotesSpec)) linesQuotesCard

/-- THE TIED CARD OF 'captionerlaw07.LinesNumbers'. -/
def linesNumbersCard : Claim7 := { stood := { row := linesNumbersRow, standIns := [], harness := (true, "375f85504e84abd8e1a1459378a09889151169173569b8815e1747a9461e71fa"), looks := true }, kinds := [], alts := [], laidByText := true, laidKinds := [.data, .data, .data, .data, .sentinel, .sentinel, .pinned], laidTests := true, laidLooks := .later }
def LinesNumbersCardSaid : Prop := Claim7.holds Tryd.pinned (.plain (OpenSpec.ofChange linesNumbersSpec)) linesNumbersCard

/-- THE SECOND FORM's CARD OF 'captionerlaw41.RulesPairs'. -/
def rulesPairsUptoCard : Claim7 := { stood := { row := rulesPairsUptoRow, standIns := [], harness := (true, "375f85504e84abd8e1a1459378a09889151169173569b8815e1747a9461e71fa"), looks := true }, kinds := [], alts := [], laidByText := true, laidKinds := [.data, .data, .data], laidTests := true, laidLooks := .later }
def RulesPairsUptoCardSaid : Prop := Claim7.holds Tryd.pinned (.plain (OpenSpec.upto rulesPairsSpec)) rulesPairsUptoCard

/-- THE SECOND FORM's CARD OF 'captionerlaw41.RulesShots'. -/
def rulesShotsUptoCard : Claim7 := { stood := { row := rulesShotsUptoRow, standIns := [], harness := (true, "375f85504e84abd8e1a1459378a09889151169173569b8815e1747a9461e71fa"), looks := true }, kinds := [], alts := [], laidByText := true, laidKinds := [.data, .data, .data], laidTests := true, laidLooks := .later }
def RulesShotsUptoCardSaid : Prop := Claim7.holds Tryd.pinned (.plain (OpenSpec.upto rulesShotsSpec)) rulesShotsUptoCard

/-- THE SECOND FORM's CARD OF 'captionerlaw41.RulesApart'. -/
def rulesApartUptoCard : Claim7 := { stood := { row := rulesApartUptoRow, standIns := [], harness := (true, "375f85504e84abd8e1a1459378a09889151169173569b8815e1747a9461e71fa"), looks := true }, kinds := [], alts := [], laidByText := true, laidKinds := [.data, .data, .data], laidTests := true, laidLooks := .later }
def RulesApartUptoCardSaid : Prop := Claim7.holds Tryd.pinned (.plain (OpenSpec.upto rulesApartSpec)) rulesApartUptoCard

/-- THE SECOND FORM's CARD OF 'captionerlaw41.RulesClear'. -/
def rulesClearUptoCard : Claim7 := { stood := { row := rulesClearUptoRow, standIns := [], harness := (true, "375f85504e84abd8e1a1459378a09889151169173569b8815e1747a9461e71fa"), looks := true }, kinds := [], alts := [], laidByText := true, laidKinds := [.data, .data, .data], laidTests := true, laidLooks := .later }
def RulesClearUptoCardSaid : Prop := Claim7.holds Tryd.pinned (.plain (OpenSpec.upto rulesClearSpec)) rulesClearUptoCard

/-- THE SECOND FORM's CARD OF 'captionerlaw10.RegionPlaces'. -/
def regionPlacesUptoCard : Claim7 := { stood := { row := regionPlacesUptoRow, standIns := [], harness := (true, "375f85504e84abd8e1a1459378a09889151169173569b8815e1747a9461e71fa"), looks := true }, kinds := [], alts := [], laidByText := true, laidKinds := [.data, .data, .data], laidTests := true, laidLooks := .later }
def RegionPlacesUptoCardSaid : Prop := Claim7.holds Tryd.pinned (.plain (OpenSpec.upto regionPlacesSpec)) regionPlacesUptoCard

/-- THE SECOND FORM's CARD OF 'captionerlaw10.RegionCells'. -/
def regionCellsUptoCard : Claim7 := { stood := { row := regionCellsUptoRow, standIns := [], harness := (true, "375f85504e84abd8e1a1459378a09889151169173569b8815e1747a9461e71fa"), looks := true }, kinds := [], alts := [], laidByText := true, laidKinds := [.data, .data, .data], laidTests := true, laidLooks := .later }
def RegionCellsUptoCardSaid : Prop := Claim7.holds Tryd.pinned (.plain (OpenSpec.upto regionCellsSpec)) regionCellsUptoCard

/-- THE SECOND FORM's CARD OF 'captionerlaw10.RegionChecks'. -/
def regionChecksUptoCard : Claim7 := { stood := { row := regionChecksUptoRow, standIns := [], harness := (true, "375f85504e84abd8e1a1459378a09889151169173569b8815e1747a9461e71fa"), looks := true }, kinds := [], alts := [], laidByText := true, laidKinds := [.data, .data, .data], laidTests := true, laidLooks := .later }
def RegionChecksUptoCardSaid : Prop := Claim7.holds Tryd.pinned (.plain (OpenSpec.upto regionChecksSpec)) regionChecksUptoCard

/-- THE SECOND FORM's CARD OF 'captionerlaw07.LinesSplits'. -/
def linesSplitsUptoCard : Claim7 := { stood := { row := linesSplitsUptoRow, standIns := [], harness := (true, "375f85504e84abd8e1a1459378a09889151169173569b8815e1747a9461e71fa"), looks := true }, kinds := [], alts := [], laidByText := true, laidKinds := [.data, .data, .data, .data, .sentinel, .sentinel, .pinned], laidTests := true, laidLooks := .later }
def LinesSplitsUptoCardSaid : Prop := Claim7.holds Tryd.pinned (.plain (OpenSpec.upto linesSplitsSpec)) linesSplitsUptoCard

/-- THE SECOND FORM's CARD OF 'captionerlaw07.LinesLong'. -/
def linesLongUptoCard : Claim7 := { stood := { row := linesLongUptoRow, standIns := [], harness := (true, "375f85504e84abd8e1a1459378a09889151169173569b8815e1747a9461e71fa"), looks := true }, kinds := [], alts := [], laidByText := true, laidKinds := [.data, .data, .data, .data, .sentinel, .sentinel, .pinned], laidTests := true, laidLooks := .later }
def LinesLongUptoCardSaid : Prop := Claim7.holds Tryd.pinned (.plain (OpenSpec.upto linesLongSpec)) linesLongUptoCard

/-- THE SECOND FORM's CARD OF 'captionerlaw07.LinesColumns'. -/
def linesColumnsUptoCard : Claim7 := { stood := { row := linesColumnsUptoRow, standIns := [], harness := (true, "375f85504e84abd8e1a1459378a09889151169173569b8815e1747a9461e71fa"), looks := true }, kinds := [], alts := [], laidByText := true, laidKinds := [.data, .data, .data, .data, .sentinel, .sentinel, .pinned], laidTests := true, laidLooks := .later }
def LinesColumnsUptoCardSaid : Prop := Claim7.holds Tryd.pinned (.plain (OpenSpec.upto linesColumnsSpec)) linesColumnsUptoCard

/-- THE SECOND FORM's CARD OF 'captionerlaw07.LinesQuotes'. -/
def linesQuotesUptoCard : Claim7 := { stood := { row := linesQuotesUptoRow, standIns := [], harness := (true, "375f85504e84abd8e1a1459378a09889151169173569b8815e1747a9461e71fa"), looks := true }, kinds := [], alts := [], laidByText := true, laidKinds := [.data, .data, .data, .data, .sentinel, .sentinel, .pinned], laidTests := true, laidLooks := .later }
def LinesQuotesUptoCardSaid : Prop := Claim7.holds Tryd.pinned (.plain (OpenSpec.upto linesQuotesSpec)) linesQuotesUptoCard

/-- THE SECOND FORM's CARD OF 'captionerlaw07.LinesNumbers'. -/
def linesNumbersUptoCard : Claim7 := { stood := { row := linesNumbersUptoRow, standIns := [], harness := (true, "375f85504e84abd8e1a1459378a09889151169173569b8815e1747a9461e71fa"), looks := true }, kinds := [], alts := [], laidByText := true, laidKinds := [.data, .data, .data, .data, .sentinel, .sentinel, .pinned], laidTests := true, laidLooks := .later }
def LinesNumbersUptoCardSaid : Prop := Claim7.holds Tryd.pinned (.plain (OpenSpec.upto linesNumbersSpec)) linesNumbersUptoCard
end Rows
end Go.Proofs.YtncmdhkmbmkiiaaDoor
