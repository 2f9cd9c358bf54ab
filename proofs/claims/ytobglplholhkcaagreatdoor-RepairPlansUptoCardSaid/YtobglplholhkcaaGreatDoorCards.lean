/-
  DERIVED. GIVEN WITH THE SEED: THE CARDS: each row of YtobglplholhkcaaGreatDoorRows.lean that lists a variable, with what it lists TIED to the program's text (the seventh form; the later family's looks); each row that meets fmt, with fmt's text TOLD by the authors' own Lean function (tested against real Go, not proved from fmt's source: count such statements apart). THE CARD IS WHAT COUNTS. Prove the row's statement (the work); the ties are given (YtobglplholhkcaaGreatDoorTie.lean); close each card by the builder's one call (the guide's Derived/Test/ToyasCard.lean, 'card_holds'). Laid BY PROGRAM, IN A SANDBOX (cutbox-door.mjs). By AI agents, Wed Nov 11 2026. No macro, syntax, notation, axiom, sorry.
-/
import Derived.Test.YtobglplholhkcaaGreatDoorRows
import GoSem.ClaimSeven
namespace Go.Proofs.YtobglplholhkcaaGreatDoor
namespace Rows

/-- THE TIED CARD OF 'captionerlaw43.RepairZones'. -/
def repairZonesCard : Claim7 := { stood := { row := repairZonesRow, standIns := [], harness := (true, "323a85d70c81059fc0926adbf8a99f2060b208a889316ae5550a164d0cf4b67c"), looks := false }, kinds := [], alts := [], laidByText := true, laidKinds := [.data, .pinned], laidTests := true, laidLooks := .later }
def RepairZonesCardSaid : Prop := Claim7.holds Tryz.pinned (.plain (OpenSpec.ofChange repairZonesSpec)) repairZonesCard

/-- THE TIED CARD OF 'captionerlaw43.RepairBounds'. -/
def repairBoundsCard : Claim7 := { stood := { row := repairBoundsRow, standIns := [], harness := (true, "323a85d70c81059fc0926adbf8a99f2060b208a889316ae5550a164d0cf4b67c"), looks := false }, kinds := [], alts := [], laidByText := true, laidKinds := [.data, .pinned], laidTests := true, laidLooks := .later }
def RepairBoundsCardSaid : Prop := Claim7.holds Tryz.pinned (.plain (OpenSpec.ofChange repairBoundsSpec)) repairBoundsCard

/-- THE TIED CARD OF 'captionerlaw43.RepairLeast'. -/
def repairLeastCard : Claim7 := { stood := { row := repairLeastRow, standIns := [], harness := (true, "323a85d70c81059fc0926adbf8a99f2060b208a889316ae5550a164d0cf4b67c"), looks := false }, kinds := [], alts := [], laidByText := true, laidKinds := [.data, .pinned], laidTests := true, laidLooks := .later }
def RepairLeastCardSaid : Prop := Claim7.holds Tryz.pinned (.plain (OpenSpec.ofChange repairLeastSpec)) repairLeastCard

/-- THE TIED CARD OF 'captionerlaw43.RepairPlans'. -/
def repairPlansCard : Claim7 := { stood := { row := repairPlansRow, standIns := [], harness := (true, "323a85d70c81059fc0926adbf8a99f2060b208a889316ae5550a164d0cf4b67c"), looks := false }, kinds := [], alts := [], laidByText := true, laidKinds := [.data, .pinned], laidTests := true, laidLooks := .later }
def RepairPlansCardSaid : Prop := Claim7.holds Tryz.pinned (.plain (OpenSpec.ofChange repairPlansSpec)) repairPlansCard

/-- THE TIED CARD OF 'captionerlaw43.RepairApplies'. -/
def repairAppliesCard : Claim7 := { stood := { row := repairAppliesRow, standIns := [], harness := (true, "323a85d70c81059fc0926adbf8a99f2060b208a889316ae5550a164d0cf4b67c"), looks := false }, kinds := [], alts := [], laidByText := true, laidKinds := [.data, .pinned], laidTests := true, laidLooks := .later }
def RepairAppliesCardSaid : Prop := Claim7.holds Tryz.pinned (.plain (OpenSpec.ofChange repairAppliesSpec)) repairAppliesCard

/-- THE TIED CARD OF 'captionerlaw43.RepairNears'. -/
def repairNearsCard : Claim7 := { stood := { row := repairNearsRow, standIns := [], harness := (true, "323a85d70c81059fc0926adbf8a99f2060b208a889316ae5550a164d0cf4b67c"), looks := false }, kinds := [], alts := [], laidByText := true, laidKinds := [.data, .pinned], laidTests := true, laidLooks := .later }
def RepairNearsCardSaid : Prop := Claim7.holds Tryz.pinned (.plain (OpenSpec.ofChange repairNearsSpec)) repairNearsCard

/-- THE TIED CARD OF 'captionerlaw43.RepairNames'. -/
def repairNamesCard : Claim7 := { stood := { row := repairNamesRow, standIns := [], harness := (true, "323a85d70c81059fc0926adbf8a99f2060b208a889316ae5550a164d0cf4b67c"), looks := false }, kinds := [], alts := [], laidByText := true, laidKinds := [.data, .pinned], laidTests := true, laidLooks := .later }
def RepairNamesCardSaid : Prop := Claim7.holds Tryz.pinned (.plain (OpenSpec.ofChange repairNamesSpec)) repairNamesCard

/-- THE SECOND FORM's CARD OF 'captionerlaw43.RepairZones'. -/
def repairZonesUptoCard : Claim7 := { stood := { row := repairZonesUptoRow, standIns := [], harness := (true, "323a85d70c81059fc0926adbf8a99f2060b208a889316ae5550a164d0cf4b67c"), looks := false }, kinds := [], alts := [], laidByText := true, laidKinds := [.data, .pinned], laidTests := true, laidLooks := .later }
def RepairZonesUptoCardSaid : Prop := Claim7.holds Tryz.pinned (.plain (OpenSpec.upto repairZonesSpec)) repairZonesUptoCard

/-- THE SECOND FORM's CARD OF 'captionerlaw43.RepairBounds'. -/
def repairBoundsUptoCard : Claim7 := { stood := { row := repairBoundsUptoRow, standIns := [], harness := (true, "323a85d70c81059fc0926adbf8a99f2060b208a889316ae5550a164d0cf4b67c"), looks := false }, kinds := [], alts := [], laidByText := true, laidKinds := [.data, .pinned], laidTests := true, laidLooks := .later }
def RepairBoundsUptoCardSaid : Prop := Claim7.holds Tryz.pinned (.plain (OpenSpec.upto repairBoundsSpec)) repairBoundsUptoCard

/-- THE SECOND FORM's CARD OF 'captionerlaw43.RepairLeast'. -/
def repairLeastUptoCard : Claim7 := { stood := { row := repairLeastUptoRow, standIns := [], harness := (true, "323a85d70c81059fc0926adbf8a99f2060b208a889316ae5550a164d0cf4b67c"), looks := false }, kinds := [], alts := [], laidByText := true, laidKinds := [.data, .pinned], laidTests := true, laidLooks := .later }
def RepairLeastUptoCardSaid : Prop := Claim7.holds Tryz.pinned (.plain (OpenSpec.upto repairLeastSpec)) repairLeastUptoCard

/-- THE SECOND FORM's CARD OF 'captionerlaw43.RepairPlans'. -/
def repairPlansUptoCard : Claim7 := { stood := { row := repairPlansUptoRow, standIns := [], harness := (true, "323a85d70c81059fc0926adbf8a99f2060b208a889316ae5550a164d0cf4b67c"), looks := false }, kinds := [], alts := [], laidByText := true, laidKinds := [.data, .pinned], laidTests := true, laidLooks := .later }
def RepairPlansUptoCardSaid : Prop := Claim7.holds Tryz.pinned (.plain (OpenSpec.upto repairPlansSpec)) repairPlansUptoCard

/-- THE SECOND FORM's CARD OF 'captionerlaw43.RepairApplies'. -/
def repairAppliesUptoCard : Claim7 := { stood := { row := repairAppliesUptoRow, standIns := [], harness := (true, "323a85d70c81059fc0926adbf8a99f2060b208a889316ae5550a164d0cf4b67c"), looks := false }, kinds := [], alts := [], laidByText := true, laidKinds := [.data, .pinned], laidTests := true, laidLooks := .later }
def RepairAppliesUptoCardSaid : Prop := Claim7.holds Tryz.pinned (.plain (OpenSpec.upto repairAppliesSpec)) repairAppliesUptoCard

/-- THE SECOND FORM's CARD OF 'captionerlaw43.RepairNears'. -/
def repairNearsUptoCard : Claim7 := { stood := { row := repairNearsUptoRow, standIns := [], harness := (true, "323a85d70c81059fc0926adbf8a99f2060b208a889316ae5550a164d0cf4b67c"), looks := false }, kinds := [], alts := [], laidByText := true, laidKinds := [.data, .pinned], laidTests := true, laidLooks := .later }
def RepairNearsUptoCardSaid : Prop := Claim7.holds Tryz.pinned (.plain (OpenSpec.upto repairNearsSpec)) repairNearsUptoCard

/-- THE SECOND FORM's CARD OF 'captionerlaw43.RepairNames'. -/
def repairNamesUptoCard : Claim7 := { stood := { row := repairNamesUptoRow, standIns := [], harness := (true, "323a85d70c81059fc0926adbf8a99f2060b208a889316ae5550a164d0cf4b67c"), looks := false }, kinds := [], alts := [], laidByText := true, laidKinds := [.data, .pinned], laidTests := true, laidLooks := .later }
def RepairNamesUptoCardSaid : Prop := Claim7.holds Tryz.pinned (.plain (OpenSpec.upto repairNamesSpec)) repairNamesUptoCard
end Rows
end Go.Proofs.YtobglplholhkcaaGreatDoor
