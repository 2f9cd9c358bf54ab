/-
  NARROWER THAN 'FOR EVERY INPUT', by the rows' own cells (each row's printed sentence says how): RepairZones: laid · RepairBounds: laid · RepairLeast: laid · RepairPlans: laid · RepairApplies: laid · RepairNears: laid · RepairNames: laid.
  DERIVED. THE GIVEN ROWS OF THIS SEAT. 7 by the template 'for every input the law returns true; each argument reads behind the call as it read before'; 0 by the template 'total and deterministic' (their statements: YtobglplholhkcaaGreatDoorTotals.lean).
  GIVEN WITH THE SEED: the statements are not yours to turn. If you find one false, say at which input.
  Laid BY PROGRAM, IN A SANDBOX (cutbox-rows.mjs): the forced cells as the released guide's own fill.sh prints them over the translation f18854d45da8f542… (all of the seat's roots in one cut). By AI agents, Wed Nov 11 2026. No macro, syntax, notation, axiom, sorry.
-/
import Derived.Test.YtobglplholhkcaaGreatDoorChecked
import GoSem.PinnedTables
import GoSem.Claim
import GoSem.ClaimJoined
import GoSem.ClaimMapViews
import Derived.JoinedTies
import Derived.KernelRfl
namespace Go.Proofs.YtobglplholhkcaaGreatDoor
/- THE CELL 'sum', in the pinned program and in every row, IS THE sha256 OF THE DUMP (.gsa) THAT YtobglplholhkcaaGreatDoorProg.lean LOADS. Nothing in Lean hashes anything: it is a label: what it is worth is what the hold of that sum in a sandbox is worth. -/
noncomputable def Tryz.pinned : Pinned := { name := "ytobglplholhkcaagreatdoor", sum := "f18854d45da8f54262a3464f279c712751fb646bd37a383ed844d201616872a0", checked := Tryz.checked }
namespace Rows
def none {H : Type} : Left H := { results := [], args := [] }

/- WHAT THE LISTED PACKAGE-LEVEL VARIABLES READ AS WHEN THE CALL BEGINS. Each datum BY PROGRAM (the guide's laid-datum.mjs) off the statement by which the dump's own 'gosem.cut.vars' lays the variable. In a bare row this is a premise. The card (YtobglplholhkcaaGreatDoorCards.lean) ties it to the program's text. -/
def laid_unicode_utf8_acceptRanges {H : Type} : DataW H := .agg [.agg [.lit (.int .u8 128), .lit (.int .u8 191)], .agg [.lit (.int .u8 160), .lit (.int .u8 191)], .agg [.lit (.int .u8 128), .lit (.int .u8 159)], .agg [.lit (.int .u8 144), .lit (.int .u8 191)], .agg [.lit (.int .u8 128), .lit (.int .u8 143)], .agg [.lit (.int .u8 0), .lit (.int .u8 0)], .agg [.lit (.int .u8 0), .lit (.int .u8 0)], .agg [.lit (.int .u8 0), .lit (.int .u8 0)], .agg [.lit (.int .u8 0), .lit (.int .u8 0)], .agg [.lit (.int .u8 0), .lit (.int .u8 0)], .agg [.lit (.int .u8 0), .lit (.int .u8 0)], .agg [.lit (.int .u8 0), .lit (.int .u8 0)], .agg [.lit (.int .u8 0), .lit (.int .u8 0)], .agg [.lit (.int .u8 0), .lit (.int .u8 0)], .agg [.lit (.int .u8 0), .lit (.int .u8 0)], .agg [.lit (.int .u8 0), .lit (.int .u8 0)]]
/-- One of Go's own tables, pinned by name: the form's constant. -/
def laid_unicode_utf8_first : DataW Unit := Go.Pinned.utf8First

/-- 'captionerlaw43.RepairZones': WHATEVER THE INPUT: true; the input reads as it did. -/
def repairZonesSpec : ChangeSpec := { name := "repairZones", fn := fun _ => fun
  | [d1, d2, d3] => { results := [.lit (.bool true)], args := [d1, d2, d3] }
  | _ => none }
def repairZonesRow : OpenClaim := { program := "ytobglplholhkcaagreatdoor", sum := "f18854d45da8f54262a3464f279c712751fb646bd37a383ed844d201616872a0", func := "captioner/captionerlaw43.RepairZones", spec := "repairZones", inPlace := ["internal/abi.NoEscape", "internal/bytealg.IndexByteString", "internal/bytealg.IndexString"], unfollowed := true, recurses := true, named := ["unicode/utf8.first", "unicode/utf8.acceptRanges", "internal/bytealg.MaxLen"], apart := false, laid := [("unicode/utf8.acceptRanges", laid_unicode_utf8_acceptRanges), ("unicode/utf8.first", laid_unicode_utf8_first)] }
def RepairZonesSaid : Prop := repairZonesRow.holds Tryz.pinned (OpenSpec.ofChange repairZonesSpec)

/-- ITS FALSE NEIGHBOUR: 'it returns false'. Refute it at one input. -/
def repairZonesWrong : ChangeSpec := { name := "repairZones", fn := fun _ => fun
  | [d1, d2, d3] => { results := [.lit (.bool false)], args := [d1, d2, d3] }
  | _ => none }
def RepairZonesWrongFalsely : Prop := repairZonesRow.holds Tryz.pinned (OpenSpec.ofChange repairZonesWrong)

/-- 'captionerlaw43.RepairBounds': WHATEVER THE INPUT: true; the input reads as it did. -/
def repairBoundsSpec : ChangeSpec := { name := "repairBounds", fn := fun _ => fun
  | [d] => { results := [.lit (.bool true)], args := [d] }
  | _ => none }
def repairBoundsRow : OpenClaim := { program := "ytobglplholhkcaagreatdoor", sum := "f18854d45da8f54262a3464f279c712751fb646bd37a383ed844d201616872a0", func := "captioner/captionerlaw43.RepairBounds", spec := "repairBounds", inPlace := ["internal/abi.NoEscape", "internal/bytealg.IndexByteString", "internal/bytealg.IndexString"], unfollowed := true, recurses := true, named := ["unicode/utf8.first", "unicode/utf8.acceptRanges", "internal/bytealg.MaxLen"], apart := false, laid := [("unicode/utf8.acceptRanges", laid_unicode_utf8_acceptRanges), ("unicode/utf8.first", laid_unicode_utf8_first)] }
def RepairBoundsSaid : Prop := repairBoundsRow.holds Tryz.pinned (OpenSpec.ofChange repairBoundsSpec)

/-- ITS FALSE NEIGHBOUR: 'it returns false'. Refute it at one input. -/
def repairBoundsWrong : ChangeSpec := { name := "repairBounds", fn := fun _ => fun
  | [d] => { results := [.lit (.bool false)], args := [d] }
  | _ => none }
def RepairBoundsWrongFalsely : Prop := repairBoundsRow.holds Tryz.pinned (OpenSpec.ofChange repairBoundsWrong)

/-- 'captionerlaw43.RepairLeast': WHATEVER THE INPUT: true; the input reads as it did. -/
def repairLeastSpec : ChangeSpec := { name := "repairLeast", fn := fun _ => fun
  | [d] => { results := [.lit (.bool true)], args := [d] }
  | _ => none }
def repairLeastRow : OpenClaim := { program := "ytobglplholhkcaagreatdoor", sum := "f18854d45da8f54262a3464f279c712751fb646bd37a383ed844d201616872a0", func := "captioner/captionerlaw43.RepairLeast", spec := "repairLeast", inPlace := ["internal/abi.NoEscape", "internal/bytealg.IndexByteString", "internal/bytealg.IndexString"], unfollowed := true, recurses := true, named := ["unicode/utf8.first", "unicode/utf8.acceptRanges", "internal/bytealg.MaxLen"], apart := false, laid := [("unicode/utf8.acceptRanges", laid_unicode_utf8_acceptRanges), ("unicode/utf8.first", laid_unicode_utf8_first)] }
def RepairLeastSaid : Prop := repairLeastRow.holds Tryz.pinned (OpenSpec.ofChange repairLeastSpec)

/-- ITS FALSE NEIGHBOUR: 'it returns false'. Refute it at one input. -/
def repairLeastWrong : ChangeSpec := { name := "repairLeast", fn := fun _ => fun
  | [d] => { results := [.lit (.bool false)], args := [d] }
  | _ => none }
def RepairLeastWrongFalsely : Prop := repairLeastRow.holds Tryz.pinned (OpenSpec.ofChange repairLeastWrong)

/-- 'captionerlaw43.RepairPlans': WHATEVER THE INPUT: true; the input reads as it did. -/
def repairPlansSpec : ChangeSpec := { name := "repairPlans", fn := fun _ => fun
  | [d] => { results := [.lit (.bool true)], args := [d] }
  | _ => none }
def repairPlansRow : OpenClaim := { program := "ytobglplholhkcaagreatdoor", sum := "f18854d45da8f54262a3464f279c712751fb646bd37a383ed844d201616872a0", func := "captioner/captionerlaw43.RepairPlans", spec := "repairPlans", inPlace := ["internal/abi.NoEscape", "internal/bytealg.IndexByteString", "internal/bytealg.IndexString"], unfollowed := true, recurses := true, named := ["unicode/utf8.first", "unicode/utf8.acceptRanges", "internal/bytealg.MaxLen"], apart := false, laid := [("unicode/utf8.acceptRanges", laid_unicode_utf8_acceptRanges), ("unicode/utf8.first", laid_unicode_utf8_first)] }
def RepairPlansSaid : Prop := repairPlansRow.holds Tryz.pinned (OpenSpec.ofChange repairPlansSpec)

/-- ITS FALSE NEIGHBOUR: 'it returns false'. Refute it at one input. -/
def repairPlansWrong : ChangeSpec := { name := "repairPlans", fn := fun _ => fun
  | [d] => { results := [.lit (.bool false)], args := [d] }
  | _ => none }
def RepairPlansWrongFalsely : Prop := repairPlansRow.holds Tryz.pinned (OpenSpec.ofChange repairPlansWrong)

/-- 'captionerlaw43.RepairApplies': WHATEVER THE INPUT: true; the input reads as it did. -/
def repairAppliesSpec : ChangeSpec := { name := "repairApplies", fn := fun _ => fun
  | [d1, d2] => { results := [.lit (.bool true)], args := [d1, d2] }
  | _ => none }
def repairAppliesRow : OpenClaim := { program := "ytobglplholhkcaagreatdoor", sum := "f18854d45da8f54262a3464f279c712751fb646bd37a383ed844d201616872a0", func := "captioner/captionerlaw43.RepairApplies", spec := "repairApplies", inPlace := ["internal/abi.NoEscape", "internal/bytealg.IndexByteString", "internal/bytealg.IndexString"], unfollowed := true, recurses := true, named := ["unicode/utf8.first", "unicode/utf8.acceptRanges", "internal/bytealg.MaxLen"], apart := false, laid := [("unicode/utf8.acceptRanges", laid_unicode_utf8_acceptRanges), ("unicode/utf8.first", laid_unicode_utf8_first)] }
def RepairAppliesSaid : Prop := repairAppliesRow.holds Tryz.pinned (OpenSpec.ofChange repairAppliesSpec)

/-- ITS FALSE NEIGHBOUR: 'it returns false'. Refute it at one input. -/
def repairAppliesWrong : ChangeSpec := { name := "repairApplies", fn := fun _ => fun
  | [d1, d2] => { results := [.lit (.bool false)], args := [d1, d2] }
  | _ => none }
def RepairAppliesWrongFalsely : Prop := repairAppliesRow.holds Tryz.pinned (OpenSpec.ofChange repairAppliesWrong)

/-- 'captionerlaw43.RepairNears': WHATEVER THE INPUT: true; the input reads as it did. -/
def repairNearsSpec : ChangeSpec := { name := "repairNears", fn := fun _ => fun
  | [d] => { results := [.lit (.bool true)], args := [d] }
  | _ => none }
def repairNearsRow : OpenClaim := { program := "ytobglplholhkcaagreatdoor", sum := "f18854d45da8f54262a3464f279c712751fb646bd37a383ed844d201616872a0", func := "captioner/captionerlaw43.RepairNears", spec := "repairNears", inPlace := ["internal/abi.NoEscape", "internal/bytealg.IndexByteString", "internal/bytealg.IndexString"], unfollowed := true, recurses := true, named := ["unicode/utf8.first", "unicode/utf8.acceptRanges", "internal/bytealg.MaxLen"], apart := false, laid := [("unicode/utf8.acceptRanges", laid_unicode_utf8_acceptRanges), ("unicode/utf8.first", laid_unicode_utf8_first)] }
def RepairNearsSaid : Prop := repairNearsRow.holds Tryz.pinned (OpenSpec.ofChange repairNearsSpec)

/-- ITS FALSE NEIGHBOUR: 'it returns false'. Refute it at one input. -/
def repairNearsWrong : ChangeSpec := { name := "repairNears", fn := fun _ => fun
  | [d] => { results := [.lit (.bool false)], args := [d] }
  | _ => none }
def RepairNearsWrongFalsely : Prop := repairNearsRow.holds Tryz.pinned (OpenSpec.ofChange repairNearsWrong)

/-- 'captionerlaw43.RepairNames': WHATEVER THE INPUT: true; the input reads as it did. -/
def repairNamesSpec : ChangeSpec := { name := "repairNames", fn := fun _ => fun
  | [d1, d2] => { results := [.lit (.bool true)], args := [d1, d2] }
  | _ => none }
def repairNamesRow : OpenClaim := { program := "ytobglplholhkcaagreatdoor", sum := "f18854d45da8f54262a3464f279c712751fb646bd37a383ed844d201616872a0", func := "captioner/captionerlaw43.RepairNames", spec := "repairNames", inPlace := ["internal/abi.NoEscape", "internal/bytealg.IndexByteString", "internal/bytealg.IndexString"], unfollowed := true, recurses := true, named := ["unicode/utf8.first", "unicode/utf8.acceptRanges", "internal/bytealg.MaxLen"], apart := false, laid := [("unicode/utf8.acceptRanges", laid_unicode_utf8_acceptRanges), ("unicode/utf8.first", laid_unicode_utf8_first)] }
def RepairNamesSaid : Prop := repairNamesRow.holds Tryz.pinned (OpenSpec.ofChange repairNamesSpec)

/-- ITS FALSE NEIGHBOUR: 'it returns false'. Refute it at one input. -/
def repairNamesWrong : ChangeSpec := { name := "repairNames", fn := fun _ => fun
  | [d1, d2] => { results := [.lit (.bool false)], args := [d1, d2] }
  | _ => none }
def RepairNamesWrongFalsely : Prop := repairNamesRow.holds Tryz.pinned (OpenSpec.ofChange repairNamesWrong)

/- THE SECOND FORM. 'bulk': how many values and letters a reading holds, each counted each time it is reached (what is shared counts as often as it is met; a slice's spare places count too). A statement '..UptoSaid' is the law's where the arguments, and the package variables that the reading takes, are together of bulk at most 1048576: NARROWER than '..Said'. Prove '..Said' where nothing that the law and all that it calls make is longer than what came in: it says more and counts as full. Else prove '..UptoSaid'. A law counts once. -/
mutual
def uptoBulk {H : Type} : DataW H → Nat
  | .lit (.string bytes) => bytes.length + 1
  | .lit _ => 1
  | .nil => 1
  | .ptr d => uptoBulk d + 1
  | .slice elems spare => uptoBulkAll elems + uptoBulkAll spare + 1
  | .agg parts => uptoBulkAll parts + 1
  | .iface _ d => uptoBulk d + 1
  | .map entries => uptoBulkEntries entries + 1
  | .held _ => 1
def uptoBulkAll {H : Type} : List (DataW H) → Nat
  | [] => 0
  | d :: r => uptoBulk d + uptoBulkAll r
def uptoBulkEntries {H : Type} : List (Lit × DataW H) → Nat
  | [] => 0
  | x :: r => uptoBulkEntry x + uptoBulkEntries r
def uptoBulkEntry {H : Type} : Lit × DataW H → Nat
  | (.string bytes, d) => bytes.length + uptoBulk d + 1
  | (_, d) => uptoBulk d + 1
 end
def uptoSmall : (H : Type) → List (DataW H) → Bool := fun _ ds => decide (uptoBulkAll ds ≤ 1048576)
def OpenSpec.upto (s : _root_.Go.ChangeSpec) : _root_.Go.OpenSpec := { _root_.Go.OpenSpec.ofChange s with cond := some uptoSmall }

/-- 'captionerlaw43.RepairZones', WHERE WHAT IT READS IS OF BULK AT MOST 1048576: true; the input reads as it did. -/
def repairZonesUptoRow : OpenClaim := { program := "ytobglplholhkcaagreatdoor", sum := "f18854d45da8f54262a3464f279c712751fb646bd37a383ed844d201616872a0", func := "captioner/captionerlaw43.RepairZones", spec := "repairZones", inPlace := ["internal/abi.NoEscape", "internal/bytealg.IndexByteString", "internal/bytealg.IndexString"], unfollowed := true, recurses := true, named := ["unicode/utf8.first", "unicode/utf8.acceptRanges", "internal/bytealg.MaxLen"], apart := false, laid := [("unicode/utf8.acceptRanges", laid_unicode_utf8_acceptRanges), ("unicode/utf8.first", laid_unicode_utf8_first)], narrowed := true }
def RepairZonesUptoSaid : Prop := repairZonesUptoRow.holds Tryz.pinned (OpenSpec.upto repairZonesSpec)

/-- 'captionerlaw43.RepairBounds', WHERE WHAT IT READS IS OF BULK AT MOST 1048576: true; the input reads as it did. -/
def repairBoundsUptoRow : OpenClaim := { program := "ytobglplholhkcaagreatdoor", sum := "f18854d45da8f54262a3464f279c712751fb646bd37a383ed844d201616872a0", func := "captioner/captionerlaw43.RepairBounds", spec := "repairBounds", inPlace := ["internal/abi.NoEscape", "internal/bytealg.IndexByteString", "internal/bytealg.IndexString"], unfollowed := true, recurses := true, named := ["unicode/utf8.first", "unicode/utf8.acceptRanges", "internal/bytealg.MaxLen"], apart := false, laid := [("unicode/utf8.acceptRanges", laid_unicode_utf8_acceptRanges), ("unicode/utf8.first", laid_unicode_utf8_first)], narrowed := true }
def RepairBoundsUptoSaid : Prop := repairBoundsUptoRow.holds Tryz.pinned (OpenSpec.upto repairBoundsSpec)

/-- 'captionerlaw43.RepairLeast', WHERE WHAT IT READS IS OF BULK AT MOST 1048576: true; the input reads as it did. -/
def repairLeastUptoRow : OpenClaim := { program := "ytobglplholhkcaagreatdoor", sum := "f18854d45da8f54262a3464f279c712751fb646bd37a383ed844d201616872a0", func := "captioner/captionerlaw43.RepairLeast", spec := "repairLeast", inPlace := ["internal/abi.NoEscape", "internal/bytealg.IndexByteString", "internal/bytealg.IndexString"], unfollowed := true, recurses := true, named := ["unicode/utf8.first", "unicode/utf8.acceptRanges", "internal/bytealg.MaxLen"], apart := false, laid := [("unicode/utf8.acceptRanges", laid_unicode_utf8_acceptRanges), ("unicode/utf8.first", laid_unicode_utf8_first)], narrowed := true }
def RepairLeastUptoSaid : Prop := repairLeastUptoRow.holds Tryz.pinned (OpenSpec.upto repairLeastSpec)

/-- 'captionerlaw43.RepairPlans', WHERE WHAT IT READS IS OF BULK AT MOST 1048576: true; the input reads as it did. -/
def repairPlansUptoRow : OpenClaim := { program := "ytobglplholhkcaagreatdoor", sum := "f18854d45da8f54262a3464f279c712751fb646bd37a383ed844d201616872a0", func := "captioner/captionerlaw43.RepairPlans", spec := "repairPlans", inPlace := ["internal/abi.NoEscape", "internal/bytealg.IndexByteString", "internal/bytealg.IndexString"], unfollowed := true, recurses := true, named := ["unicode/utf8.first", "unicode/utf8.acceptRanges", "internal/bytealg.MaxLen"], apart := false, laid := [("unicode/utf8.acceptRanges", laid_unicode_utf8_acceptRanges), ("unicode/utf8.first", laid_unicode_utf8_first)], narrowed := true }
def RepairPlansUptoSaid : Prop := repairPlansUptoRow.holds Tryz.pinned (OpenSpec.upto repairPlansSpec)

/-- 'captionerlaw43.RepairApplies', WHERE WHAT IT READS IS OF BULK AT MOST 1048576: true; the input reads as it did. -/
def repairAppliesUptoRow : OpenClaim := { program := "ytobglplholhkcaagreatdoor", sum := "f18854d45da8f54262a3464f279c712751fb646bd37a383ed844d201616872a0", func := "captioner/captionerlaw43.RepairApplies", spec := "repairApplies", inPlace := ["internal/abi.NoEscape", "internal/bytealg.IndexByteString", "internal/bytealg.IndexString"], unfollowed := true, recurses := true, named := ["unicode/utf8.first", "unicode/utf8.acceptRanges", "internal/bytealg.MaxLen"], apart := false, laid := [("unicode/utf8.acceptRanges", laid_unicode_utf8_acceptRanges), ("unicode/utf8.first", laid_unicode_utf8_first)], narrowed := true }
def RepairAppliesUptoSaid : Prop := repairAppliesUptoRow.holds Tryz.pinned (OpenSpec.upto repairAppliesSpec)

/-- 'captionerlaw43.RepairNears', WHERE WHAT IT READS IS OF BULK AT MOST 1048576: true; the input reads as it did. -/
def repairNearsUptoRow : OpenClaim := { program := "ytobglplholhkcaagreatdoor", sum := "f18854d45da8f54262a3464f279c712751fb646bd37a383ed844d201616872a0", func := "captioner/captionerlaw43.RepairNears", spec := "repairNears", inPlace := ["internal/abi.NoEscape", "internal/bytealg.IndexByteString", "internal/bytealg.IndexString"], unfollowed := true, recurses := true, named := ["unicode/utf8.first", "unicode/utf8.acceptRanges", "internal/bytealg.MaxLen"], apart := false, laid := [("unicode/utf8.acceptRanges", laid_unicode_utf8_acceptRanges), ("unicode/utf8.first", laid_unicode_utf8_first)], narrowed := true }
def RepairNearsUptoSaid : Prop := repairNearsUptoRow.holds Tryz.pinned (OpenSpec.upto repairNearsSpec)

/-- 'captionerlaw43.RepairNames', WHERE WHAT IT READS IS OF BULK AT MOST 1048576: true; the input reads as it did. -/
def repairNamesUptoRow : OpenClaim := { program := "ytobglplholhkcaagreatdoor", sum := "f18854d45da8f54262a3464f279c712751fb646bd37a383ed844d201616872a0", func := "captioner/captionerlaw43.RepairNames", spec := "repairNames", inPlace := ["internal/abi.NoEscape", "internal/bytealg.IndexByteString", "internal/bytealg.IndexString"], unfollowed := true, recurses := true, named := ["unicode/utf8.first", "unicode/utf8.acceptRanges", "internal/bytealg.MaxLen"], apart := false, laid := [("unicode/utf8.acceptRanges", laid_unicode_utf8_acceptRanges), ("unicode/utf8.first", laid_unicode_utf8_first)], narrowed := true }
def RepairNamesUptoSaid : Prop := repairNamesUptoRow.holds Tryz.pinned (OpenSpec.upto repairNamesSpec)

end Rows
end Go.Proofs.YtobglplholhkcaaGreatDoor
