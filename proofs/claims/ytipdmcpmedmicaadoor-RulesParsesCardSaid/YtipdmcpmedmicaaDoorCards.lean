/-
  DERIVED. GIVEN WITH THE SEED: THE CARDS: each row of YtipdmcpmedmicaaDoorRows.lean that lists a variable, with what it lists TIED to the program's text (the seventh form; the later family's looks); each row that meets fmt, with fmt's text TOLD by the authors' own Lean function (tested against real Go, not proved from fmt's source: count such statements apart). THE CARD IS WHAT COUNTS. Prove the row's statement (the work); the ties are given (YtipdmcpmedmicaaDoorTie.lean); close each card by the builder's one call (the guide's Derived/Test/ToyasCard.lean, 'card_holds'). Laid BY PROGRAM, IN A SANDBOX (cutbox-door.mjs). By AI agents, Wed Nov 11 2026. No macro, syntax, notation, axiom, sorry.
-/
import Derived.Test.YtipdmcpmedmicaaDoorRows
import GoSem.ClaimSeven
namespace Go.Proofs.YtipdmcpmedmicaaDoor
namespace Rows

/-- THE TIED CARD OF 'captionerlaw40.ReadingNeeds'. -/
def readingNeedsCard : Claim7 := { stood := { row := readingNeedsRow, standIns := [], harness := (true, "f172a369de03c0aa0263cc51c1a17b6219511de15ad24532fe98ece5ac8efe49"), looks := true }, kinds := [], alts := [], laidByText := true, laidKinds := [.data, .pinned], laidTests := true, laidLooks := .later }
def ReadingNeedsCardSaid : Prop := Claim7.holds Tryd.pinned (.plain (OpenSpec.ofChange readingNeedsSpec)) readingNeedsCard

/-- THE TIED CARD OF 'captionerlaw40.ReadingExact'. -/
def readingExactCard : Claim7 := { stood := { row := readingExactRow, standIns := [], harness := (true, "f172a369de03c0aa0263cc51c1a17b6219511de15ad24532fe98ece5ac8efe49"), looks := true }, kinds := [], alts := [], laidByText := true, laidKinds := [.data, .pinned], laidTests := true, laidLooks := .later }
def ReadingExactCardSaid : Prop := Claim7.holds Tryd.pinned (.plain (OpenSpec.ofChange readingExactSpec)) readingExactCard

/-- THE TIED CARD OF 'captionerlaw40.ReadingOrder'. -/
def readingOrderCard : Claim7 := { stood := { row := readingOrderRow, standIns := [], harness := (true, "f172a369de03c0aa0263cc51c1a17b6219511de15ad24532fe98ece5ac8efe49"), looks := true }, kinds := [], alts := [], laidByText := true, laidKinds := [.data, .pinned], laidTests := true, laidLooks := .later }
def ReadingOrderCardSaid : Prop := Claim7.holds Tryd.pinned (.plain (OpenSpec.ofChange readingOrderSpec)) readingOrderCard

/-- THE TIED CARD OF 'captionerlaw40.ReadingFits'. -/
def readingFitsCard : Claim7 := { stood := { row := readingFitsRow, standIns := [], harness := (true, "f172a369de03c0aa0263cc51c1a17b6219511de15ad24532fe98ece5ac8efe49"), looks := true }, kinds := [], alts := [], laidByText := true, laidKinds := [.data, .pinned], laidTests := true, laidLooks := .later }
def ReadingFitsCardSaid : Prop := Claim7.holds Tryd.pinned (.plain (OpenSpec.ofChange readingFitsSpec)) readingFitsCard

/-- THE TIED CARD OF 'captionerlaw40.ReadingLonger'. -/
def readingLongerCard : Claim7 := { stood := { row := readingLongerRow, standIns := [], harness := (true, "f172a369de03c0aa0263cc51c1a17b6219511de15ad24532fe98ece5ac8efe49"), looks := true }, kinds := [], alts := [], laidByText := true, laidKinds := [.data, .pinned], laidTests := true, laidLooks := .later }
def ReadingLongerCardSaid : Prop := Claim7.holds Tryd.pinned (.plain (OpenSpec.ofChange readingLongerSpec)) readingLongerCard

/-- THE TIED CARD OF 'captionerlaw10.RegionTexts'. -/
def regionTextsCard : Claim7 := { stood := { row := regionTextsRow, standIns := [], harness := (true, "f172a369de03c0aa0263cc51c1a17b6219511de15ad24532fe98ece5ac8efe49"), looks := true }, kinds := [], alts := [], laidByText := true, laidKinds := [.data, .data, .data, .data, .sentinel, .sentinel, .pinned], laidTests := true, laidLooks := .later }
def RegionTextsCardSaid : Prop := Claim7.holds Tryd.pinned (.plain (OpenSpec.ofChange regionTextsSpec)) regionTextsCard

/-- THE TIED CARD OF 'captionerlaw41.RulesTexts'. -/
def rulesTextsCard : Claim7 := { stood := { row := rulesTextsRow, standIns := [], harness := (true, "f172a369de03c0aa0263cc51c1a17b6219511de15ad24532fe98ece5ac8efe49"), looks := true }, kinds := [], alts := [], laidByText := true, laidKinds := [.data, .data, .data, .data, .sentinel, .sentinel, .pinned], laidTests := true, laidLooks := .later }
def RulesTextsCardSaid : Prop := Claim7.holds Tryd.pinned (.plain (OpenSpec.ofChange rulesTextsSpec)) rulesTextsCard

/-- THE TIED CARD OF 'captionerlaw41.RulesParses'. -/
def rulesParsesCard : Claim7 := { stood := { row := rulesParsesRow, standIns := [], harness := (true, "f172a369de03c0aa0263cc51c1a17b6219511de15ad24532fe98ece5ac8efe49"), looks := true }, kinds := [], alts := [], laidByText := true, laidKinds := [.data, .data, .data, .data, .sentinel, .sentinel, .pinned], laidTests := true, laidLooks := .later }
def RulesParsesCardSaid : Prop := Claim7.holds Tryd.pinned (.plain (OpenSpec.ofChange rulesParsesSpec)) rulesParsesCard

/-- THE SECOND FORM's CARD OF 'captionerlaw40.ReadingNeeds'. -/
def readingNeedsUptoCard : Claim7 := { stood := { row := readingNeedsUptoRow, standIns := [], harness := (true, "f172a369de03c0aa0263cc51c1a17b6219511de15ad24532fe98ece5ac8efe49"), looks := true }, kinds := [], alts := [], laidByText := true, laidKinds := [.data, .pinned], laidTests := true, laidLooks := .later }
def ReadingNeedsUptoCardSaid : Prop := Claim7.holds Tryd.pinned (.plain (OpenSpec.upto readingNeedsSpec)) readingNeedsUptoCard

/-- THE SECOND FORM's CARD OF 'captionerlaw40.ReadingExact'. -/
def readingExactUptoCard : Claim7 := { stood := { row := readingExactUptoRow, standIns := [], harness := (true, "f172a369de03c0aa0263cc51c1a17b6219511de15ad24532fe98ece5ac8efe49"), looks := true }, kinds := [], alts := [], laidByText := true, laidKinds := [.data, .pinned], laidTests := true, laidLooks := .later }
def ReadingExactUptoCardSaid : Prop := Claim7.holds Tryd.pinned (.plain (OpenSpec.upto readingExactSpec)) readingExactUptoCard

/-- THE SECOND FORM's CARD OF 'captionerlaw40.ReadingOrder'. -/
def readingOrderUptoCard : Claim7 := { stood := { row := readingOrderUptoRow, standIns := [], harness := (true, "f172a369de03c0aa0263cc51c1a17b6219511de15ad24532fe98ece5ac8efe49"), looks := true }, kinds := [], alts := [], laidByText := true, laidKinds := [.data, .pinned], laidTests := true, laidLooks := .later }
def ReadingOrderUptoCardSaid : Prop := Claim7.holds Tryd.pinned (.plain (OpenSpec.upto readingOrderSpec)) readingOrderUptoCard

/-- THE SECOND FORM's CARD OF 'captionerlaw40.ReadingFits'. -/
def readingFitsUptoCard : Claim7 := { stood := { row := readingFitsUptoRow, standIns := [], harness := (true, "f172a369de03c0aa0263cc51c1a17b6219511de15ad24532fe98ece5ac8efe49"), looks := true }, kinds := [], alts := [], laidByText := true, laidKinds := [.data, .pinned], laidTests := true, laidLooks := .later }
def ReadingFitsUptoCardSaid : Prop := Claim7.holds Tryd.pinned (.plain (OpenSpec.upto readingFitsSpec)) readingFitsUptoCard

/-- THE SECOND FORM's CARD OF 'captionerlaw40.ReadingLonger'. -/
def readingLongerUptoCard : Claim7 := { stood := { row := readingLongerUptoRow, standIns := [], harness := (true, "f172a369de03c0aa0263cc51c1a17b6219511de15ad24532fe98ece5ac8efe49"), looks := true }, kinds := [], alts := [], laidByText := true, laidKinds := [.data, .pinned], laidTests := true, laidLooks := .later }
def ReadingLongerUptoCardSaid : Prop := Claim7.holds Tryd.pinned (.plain (OpenSpec.upto readingLongerSpec)) readingLongerUptoCard

/-- THE SECOND FORM's CARD OF 'captionerlaw10.RegionTexts'. -/
def regionTextsUptoCard : Claim7 := { stood := { row := regionTextsUptoRow, standIns := [], harness := (true, "f172a369de03c0aa0263cc51c1a17b6219511de15ad24532fe98ece5ac8efe49"), looks := true }, kinds := [], alts := [], laidByText := true, laidKinds := [.data, .data, .data, .data, .sentinel, .sentinel, .pinned], laidTests := true, laidLooks := .later }
def RegionTextsUptoCardSaid : Prop := Claim7.holds Tryd.pinned (.plain (OpenSpec.upto regionTextsSpec)) regionTextsUptoCard

/-- THE SECOND FORM's CARD OF 'captionerlaw41.RulesTexts'. -/
def rulesTextsUptoCard : Claim7 := { stood := { row := rulesTextsUptoRow, standIns := [], harness := (true, "f172a369de03c0aa0263cc51c1a17b6219511de15ad24532fe98ece5ac8efe49"), looks := true }, kinds := [], alts := [], laidByText := true, laidKinds := [.data, .data, .data, .data, .sentinel, .sentinel, .pinned], laidTests := true, laidLooks := .later }
def RulesTextsUptoCardSaid : Prop := Claim7.holds Tryd.pinned (.plain (OpenSpec.upto rulesTextsSpec)) rulesTextsUptoCard

/-- THE SECOND FORM's CARD OF 'captionerlaw41.RulesParses'. -/
def rulesParsesUptoCard : Claim7 := { stood := { row := rulesParsesUptoRow, standIns := [], harness := (true, "f172a369de03c0aa0263cc51c1a17b6219511de15ad24532fe98ece5ac8efe49"), looks := true }, kinds := [], alts := [], laidByText := true, laidKinds := [.data, .data, .data, .data, .sentinel, .sentinel, .pinned], laidTests := true, laidLooks := .later }
def RulesParsesUptoCardSaid : Prop := Claim7.holds Tryd.pinned (.plain (OpenSpec.upto rulesParsesSpec)) rulesParsesUptoCard
end Rows
end Go.Proofs.YtipdmcpmedmicaaDoor
