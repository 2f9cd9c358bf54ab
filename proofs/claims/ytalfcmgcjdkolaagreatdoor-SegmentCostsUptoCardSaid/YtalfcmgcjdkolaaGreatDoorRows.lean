/-
  NARROWER THAN 'FOR EVERY INPUT', by the rows' own cells (each row's printed sentence says how): SegmentParts: laid · SegmentDivides: laid · SegmentCosts: laid · SegmentWords: laid · SegmentFits: laid.
  DERIVED. THE GIVEN ROWS OF THIS SEAT. 5 by the template 'for every input the law returns true; each argument reads behind the call as it read before'; 0 by the template 'total and deterministic' (their statements: YtalfcmgcjdkolaaGreatDoorTotals.lean).
  GIVEN WITH THE SEED: the statements are not yours to turn. If you find one false, say at which input.
  Laid BY PROGRAM, IN A SANDBOX (cutbox-rows.mjs): the forced cells as the released guide's own fill.sh prints them over the translation c75880d76dd6e88d… (all of the seat's roots in one cut). By AI agents, Wed Nov 11 2026. No macro, syntax, notation, axiom, sorry.
-/
import Derived.Test.YtalfcmgcjdkolaaGreatDoorChecked
import GoSem.PinnedTables
import GoSem.Claim
import GoSem.ClaimJoined
import GoSem.ClaimMapViews
import Derived.JoinedTies
import Derived.KernelRfl
namespace Go.Proofs.YtalfcmgcjdkolaaGreatDoor
/- THE CELL 'sum', in the pinned program and in every row, IS THE sha256 OF THE DUMP (.gsa) THAT YtalfcmgcjdkolaaGreatDoorProg.lean LOADS. Nothing in Lean hashes anything: it is a label: what it is worth is what the hold of that sum in a sandbox is worth. -/
noncomputable def Tryz.pinned : Pinned := { name := "ytalfcmgcjdkolaagreatdoor", sum := "c75880d76dd6e88d9d76484c03df2ceec9818ad0b1b2231e8ccc697d83cfae4e", checked := Tryz.checked }
namespace Rows
def none {H : Type} : Left H := { results := [], args := [] }

/- WHAT THE LISTED PACKAGE-LEVEL VARIABLES READ AS WHEN THE CALL BEGINS. Each datum BY PROGRAM (the guide's laid-datum.mjs) off the statement by which the dump's own 'gosem.cut.vars' lays the variable. In a bare row this is a premise. The card (YtalfcmgcjdkolaaGreatDoorCards.lean) ties it to the program's text. -/
def laid_unicode_utf8_acceptRanges {H : Type} : DataW H := .agg [.agg [.lit (.int .u8 128), .lit (.int .u8 191)], .agg [.lit (.int .u8 160), .lit (.int .u8 191)], .agg [.lit (.int .u8 128), .lit (.int .u8 159)], .agg [.lit (.int .u8 144), .lit (.int .u8 191)], .agg [.lit (.int .u8 128), .lit (.int .u8 143)], .agg [.lit (.int .u8 0), .lit (.int .u8 0)], .agg [.lit (.int .u8 0), .lit (.int .u8 0)], .agg [.lit (.int .u8 0), .lit (.int .u8 0)], .agg [.lit (.int .u8 0), .lit (.int .u8 0)], .agg [.lit (.int .u8 0), .lit (.int .u8 0)], .agg [.lit (.int .u8 0), .lit (.int .u8 0)], .agg [.lit (.int .u8 0), .lit (.int .u8 0)], .agg [.lit (.int .u8 0), .lit (.int .u8 0)], .agg [.lit (.int .u8 0), .lit (.int .u8 0)], .agg [.lit (.int .u8 0), .lit (.int .u8 0)], .agg [.lit (.int .u8 0), .lit (.int .u8 0)]]
/-- One of Go's own tables, pinned by name: the form's constant. -/
def laid_unicode_utf8_first : DataW Unit := Go.Pinned.utf8First

/-- 'captionerlaw38.SegmentParts': WHATEVER THE INPUT: true; the input reads as it did. -/
def segmentPartsSpec : ChangeSpec := { name := "segmentParts", fn := fun _ => fun
  | [d1, d2, d3] => { results := [.lit (.bool true)], args := [d1, d2, d3] }
  | _ => none }
def segmentPartsRow : OpenClaim := { program := "ytalfcmgcjdkolaagreatdoor", sum := "c75880d76dd6e88d9d76484c03df2ceec9818ad0b1b2231e8ccc697d83cfae4e", func := "captioner/captionerlaw38.SegmentParts", spec := "segmentParts", inPlace := ["internal/bytealg.IndexByteString", "internal/bytealg.IndexString", "internal/bytealg.CountString"], named := ["internal/bytealg.MaxLen", "unicode/utf8.first", "unicode/utf8.acceptRanges"], apart := false, laid := [("unicode/utf8.acceptRanges", laid_unicode_utf8_acceptRanges), ("unicode/utf8.first", laid_unicode_utf8_first)] }
def SegmentPartsSaid : Prop := segmentPartsRow.holds Tryz.pinned (OpenSpec.ofChange segmentPartsSpec)

/-- ITS FALSE NEIGHBOUR: 'it returns false'. Refute it at one input. -/
def segmentPartsWrong : ChangeSpec := { name := "segmentParts", fn := fun _ => fun
  | [d1, d2, d3] => { results := [.lit (.bool false)], args := [d1, d2, d3] }
  | _ => none }
def SegmentPartsWrongFalsely : Prop := segmentPartsRow.holds Tryz.pinned (OpenSpec.ofChange segmentPartsWrong)

/-- 'captionerlaw38.SegmentDivides': WHATEVER THE INPUT: true; the input reads as it did. -/
def segmentDividesSpec : ChangeSpec := { name := "segmentDivides", fn := fun _ => fun
  | [d] => { results := [.lit (.bool true)], args := [d] }
  | _ => none }
def segmentDividesRow : OpenClaim := { program := "ytalfcmgcjdkolaagreatdoor", sum := "c75880d76dd6e88d9d76484c03df2ceec9818ad0b1b2231e8ccc697d83cfae4e", func := "captioner/captionerlaw38.SegmentDivides", spec := "segmentDivides", inPlace := ["internal/bytealg.IndexByteString", "internal/bytealg.IndexString", "internal/bytealg.CountString"], unfollowed := true, recurses := true, named := ["internal/bytealg.MaxLen", "unicode/utf8.first", "unicode/utf8.acceptRanges"], apart := false, laid := [("unicode/utf8.acceptRanges", laid_unicode_utf8_acceptRanges), ("unicode/utf8.first", laid_unicode_utf8_first)] }
def SegmentDividesSaid : Prop := segmentDividesRow.holds Tryz.pinned (OpenSpec.ofChange segmentDividesSpec)

/-- ITS FALSE NEIGHBOUR: 'it returns false'. Refute it at one input. -/
def segmentDividesWrong : ChangeSpec := { name := "segmentDivides", fn := fun _ => fun
  | [d] => { results := [.lit (.bool false)], args := [d] }
  | _ => none }
def SegmentDividesWrongFalsely : Prop := segmentDividesRow.holds Tryz.pinned (OpenSpec.ofChange segmentDividesWrong)

/-- 'captionerlaw38.SegmentCosts': WHATEVER THE INPUT: true; the input reads as it did. -/
def segmentCostsSpec : ChangeSpec := { name := "segmentCosts", fn := fun _ => fun
  | [d1, d2] => { results := [.lit (.bool true)], args := [d1, d2] }
  | _ => none }
def segmentCostsRow : OpenClaim := { program := "ytalfcmgcjdkolaagreatdoor", sum := "c75880d76dd6e88d9d76484c03df2ceec9818ad0b1b2231e8ccc697d83cfae4e", func := "captioner/captionerlaw38.SegmentCosts", spec := "segmentCosts", inPlace := ["internal/bytealg.IndexByteString", "internal/bytealg.IndexString", "internal/bytealg.CountString", "internal/abi.NoEscape", "internal/bytealg.MakeNoZero"], unfollowed := true, recurses := true, named := ["internal/bytealg.MaxLen", "unicode/utf8.first", "unicode/utf8.acceptRanges"], apart := false, laid := [("unicode/utf8.acceptRanges", laid_unicode_utf8_acceptRanges), ("unicode/utf8.first", laid_unicode_utf8_first)] }
def SegmentCostsSaid : Prop := segmentCostsRow.holds Tryz.pinned (OpenSpec.ofChange segmentCostsSpec)

/-- ITS FALSE NEIGHBOUR: 'it returns false'. Refute it at one input. -/
def segmentCostsWrong : ChangeSpec := { name := "segmentCosts", fn := fun _ => fun
  | [d1, d2] => { results := [.lit (.bool false)], args := [d1, d2] }
  | _ => none }
def SegmentCostsWrongFalsely : Prop := segmentCostsRow.holds Tryz.pinned (OpenSpec.ofChange segmentCostsWrong)

/-- 'captionerlaw38.SegmentWords': WHATEVER THE INPUT: true; the input reads as it did. -/
def segmentWordsSpec : ChangeSpec := { name := "segmentWords", fn := fun _ => fun
  | [d1, d2] => { results := [.lit (.bool true)], args := [d1, d2] }
  | _ => none }
def segmentWordsRow : OpenClaim := { program := "ytalfcmgcjdkolaagreatdoor", sum := "c75880d76dd6e88d9d76484c03df2ceec9818ad0b1b2231e8ccc697d83cfae4e", func := "captioner/captionerlaw38.SegmentWords", spec := "segmentWords", inPlace := ["internal/bytealg.IndexByteString", "internal/bytealg.IndexString", "internal/bytealg.CountString", "internal/abi.NoEscape", "internal/bytealg.MakeNoZero"], named := ["internal/bytealg.MaxLen", "unicode/utf8.first", "unicode/utf8.acceptRanges"], apart := false, laid := [("unicode/utf8.acceptRanges", laid_unicode_utf8_acceptRanges), ("unicode/utf8.first", laid_unicode_utf8_first)] }
def SegmentWordsSaid : Prop := segmentWordsRow.holds Tryz.pinned (OpenSpec.ofChange segmentWordsSpec)

/-- ITS FALSE NEIGHBOUR: 'it returns false'. Refute it at one input. -/
def segmentWordsWrong : ChangeSpec := { name := "segmentWords", fn := fun _ => fun
  | [d1, d2] => { results := [.lit (.bool false)], args := [d1, d2] }
  | _ => none }
def SegmentWordsWrongFalsely : Prop := segmentWordsRow.holds Tryz.pinned (OpenSpec.ofChange segmentWordsWrong)

/-- 'captionerlaw38.SegmentFits': WHATEVER THE INPUT: true; the input reads as it did. -/
def segmentFitsSpec : ChangeSpec := { name := "segmentFits", fn := fun _ => fun
  | [d] => { results := [.lit (.bool true)], args := [d] }
  | _ => none }
def segmentFitsRow : OpenClaim := { program := "ytalfcmgcjdkolaagreatdoor", sum := "c75880d76dd6e88d9d76484c03df2ceec9818ad0b1b2231e8ccc697d83cfae4e", func := "captioner/captionerlaw38.SegmentFits", spec := "segmentFits", inPlace := ["internal/bytealg.IndexByteString", "internal/bytealg.IndexString", "internal/bytealg.CountString", "internal/abi.NoEscape", "internal/bytealg.MakeNoZero"], named := ["internal/bytealg.MaxLen", "unicode/utf8.first", "unicode/utf8.acceptRanges"], apart := false, laid := [("unicode/utf8.acceptRanges", laid_unicode_utf8_acceptRanges), ("unicode/utf8.first", laid_unicode_utf8_first)] }
def SegmentFitsSaid : Prop := segmentFitsRow.holds Tryz.pinned (OpenSpec.ofChange segmentFitsSpec)

/-- ITS FALSE NEIGHBOUR: 'it returns false'. Refute it at one input. -/
def segmentFitsWrong : ChangeSpec := { name := "segmentFits", fn := fun _ => fun
  | [d] => { results := [.lit (.bool false)], args := [d] }
  | _ => none }
def SegmentFitsWrongFalsely : Prop := segmentFitsRow.holds Tryz.pinned (OpenSpec.ofChange segmentFitsWrong)

/- THE SECOND FORM. 'bulk': how many values and letters a reading holds, each counted each time it is reached (what is shared counts as often as it is met; a slice's spare places count too). A statement '..UptoSaid' is the law's where the arguments, and the package variables that the reading takes, are together of bulk at most 1048576: NARROWER than '..Said'. Prove '..Said' where nothing that the law and all that it calls make is longer than what came in: it says more and counts as full. Else prove '..UptoSaid'. A law counts once. -/
mutual
def uptoBulk {H : Type} : DataW H → Nat
  | .lit (.string bytes) => bytes.length + 1
  | .lit _ => 1
  | .nil => 1
  | .ptr d => uptoBulk d + 1
  | .slice elems spare => uptoBulkAll elems + uptoBulkAll spare + 1
  | .agg parts => uptoBulkAll parts + 1
  | .iface _ d => uptoBulk d + 1
  | .map entries => uptoBulkEntries entries + 1
  | .held _ => 1
def uptoBulkAll {H : Type} : List (DataW H) → Nat
  | [] => 0
  | d :: r => uptoBulk d + uptoBulkAll r
def uptoBulkEntries {H : Type} : List (Lit × DataW H) → Nat
  | [] => 0
  | x :: r => uptoBulkEntry x + uptoBulkEntries r
def uptoBulkEntry {H : Type} : Lit × DataW H → Nat
  | (.string bytes, d) => bytes.length + uptoBulk d + 1
  | (_, d) => uptoBulk d + 1
 end
def uptoSmall : (H : Type) → List (DataW H) → Bool := fun _ ds => decide (uptoBulkAll ds ≤ 1048576)
def OpenSpec.upto (s : _root_.Go.ChangeSpec) : _root_.Go.OpenSpec := { _root_.Go.OpenSpec.ofChange s with cond := some uptoSmall }

/-- 'captionerlaw38.SegmentParts', WHERE WHAT IT READS IS OF BULK AT MOST 1048576: true; the input reads as it did. -/
def segmentPartsUptoRow : OpenClaim := { program := "ytalfcmgcjdkolaagreatdoor", sum := "c75880d76dd6e88d9d76484c03df2ceec9818ad0b1b2231e8ccc697d83cfae4e", func := "captioner/captionerlaw38.SegmentParts", spec := "segmentParts", inPlace := ["internal/bytealg.IndexByteString", "internal/bytealg.IndexString", "internal/bytealg.CountString"], named := ["internal/bytealg.MaxLen", "unicode/utf8.first", "unicode/utf8.acceptRanges"], apart := false, laid := [("unicode/utf8.acceptRanges", laid_unicode_utf8_acceptRanges), ("unicode/utf8.first", laid_unicode_utf8_first)], narrowed := true }
def SegmentPartsUptoSaid : Prop := segmentPartsUptoRow.holds Tryz.pinned (OpenSpec.upto segmentPartsSpec)

/-- 'captionerlaw38.SegmentDivides', WHERE WHAT IT READS IS OF BULK AT MOST 1048576: true; the input reads as it did. -/
def segmentDividesUptoRow : OpenClaim := { program := "ytalfcmgcjdkolaagreatdoor", sum := "c75880d76dd6e88d9d76484c03df2ceec9818ad0b1b2231e8ccc697d83cfae4e", func := "captioner/captionerlaw38.SegmentDivides", spec := "segmentDivides", inPlace := ["internal/bytealg.IndexByteString", "internal/bytealg.IndexString", "internal/bytealg.CountString"], unfollowed := true, recurses := true, named := ["internal/bytealg.MaxLen", "unicode/utf8.first", "unicode/utf8.acceptRanges"], apart := false, laid := [("unicode/utf8.acceptRanges", laid_unicode_utf8_acceptRanges), ("unicode/utf8.first", laid_unicode_utf8_first)], narrowed := true }
def SegmentDividesUptoSaid : Prop := segmentDividesUptoRow.holds Tryz.pinned (OpenSpec.upto segmentDividesSpec)

/-- 'captionerlaw38.SegmentCosts', WHERE WHAT IT READS IS OF BULK AT MOST 1048576: true; the input reads as it did. -/
def segmentCostsUptoRow : OpenClaim := { program := "ytalfcmgcjdkolaagreatdoor", sum := "c75880d76dd6e88d9d76484c03df2ceec9818ad0b1b2231e8ccc697d83cfae4e", func := "captioner/captionerlaw38.SegmentCosts", spec := "segmentCosts", inPlace := ["internal/bytealg.IndexByteString", "internal/bytealg.IndexString", "internal/bytealg.CountString", "internal/abi.NoEscape", "internal/bytealg.MakeNoZero"], unfollowed := true, recurses := true, named := ["internal/bytealg.MaxLen", "unicode/utf8.first", "unicode/utf8.acceptRanges"], apart := false, laid := [("unicode/utf8.acceptRanges", laid_unicode_utf8_acceptRanges), ("unicode/utf8.first", laid_unicode_utf8_first)], narrowed := true }
def SegmentCostsUptoSaid : Prop := segmentCostsUptoRow.holds Tryz.pinned (OpenSpec.upto segmentCostsSpec)

/-- 'captionerlaw38.SegmentWords', WHERE WHAT IT READS IS OF BULK AT MOST 1048576: true; the input reads as it did. -/
def segmentWordsUptoRow : OpenClaim := { program := "ytalfcmgcjdkolaagreatdoor", sum := "c75880d76dd6e88d9d76484c03df2ceec9818ad0b1b2231e8ccc697d83cfae4e", func := "captioner/captionerlaw38.SegmentWords", spec := "segmentWords", inPlace := ["internal/bytealg.IndexByteString", "internal/bytealg.IndexString", "internal/bytealg.CountString", "internal/abi.NoEscape", "internal/bytealg.MakeNoZero"], named := ["internal/bytealg.MaxLen", "unicode/utf8.first", "unicode/utf8.acceptRanges"], apart := false, laid := [("unicode/utf8.acceptRanges", laid_unicode_utf8_acceptRanges), ("unicode/utf8.first", laid_unicode_utf8_first)], narrowed := true }
def SegmentWordsUptoSaid : Prop := segmentWordsUptoRow.holds Tryz.pinned (OpenSpec.upto segmentWordsSpec)

/-- 'captionerlaw38.SegmentFits', WHERE WHAT IT READS IS OF BULK AT MOST 1048576: true; the input reads as it did. -/
def segmentFitsUptoRow : OpenClaim := { program := "ytalfcmgcjdkolaagreatdoor", sum := "c75880d76dd6e88d9d76484c03df2ceec9818ad0b1b2231e8ccc697d83cfae4e", func := "captioner/captionerlaw38.SegmentFits", spec := "segmentFits", inPlace := ["internal/bytealg.IndexByteString", "internal/bytealg.IndexString", "internal/bytealg.CountString", "internal/abi.NoEscape", "internal/bytealg.MakeNoZero"], named := ["internal/bytealg.MaxLen", "unicode/utf8.first", "unicode/utf8.acceptRanges"], apart := false, laid := [("unicode/utf8.acceptRanges", laid_unicode_utf8_acceptRanges), ("unicode/utf8.first", laid_unicode_utf8_first)], narrowed := true }
def SegmentFitsUptoSaid : Prop := segmentFitsUptoRow.holds Tryz.pinned (OpenSpec.upto segmentFitsSpec)

end Rows
end Go.Proofs.YtalfcmgcjdkolaaGreatDoor
