/-
  NARROWER THAN 'FOR EVERY INPUT', by the rows' own cells (each row's printed sentence says how): RulesPairs: laid · RulesShots: laid · RulesApart: laid · RulesClear: laid · RegionPlaces: laid · RegionCells: laid · RegionChecks: laid · LinesSplits: laid · LinesLong: laid · LinesColumns: laid · LinesQuotes: laid · LinesNumbers: laid.
  DERIVED. THE GIVEN ROWS OF THIS SEAT. 12 by the template 'for every input the law returns true; each argument reads behind the call as it read before'; 0 by the template 'total and deterministic' (their statements: YtncmdhkmbmkiiaaDoorTotals.lean).
  GIVEN WITH THE SEED: the statements are not yours to turn. If you find one false, say at which input.
  Laid BY PROGRAM, IN A SANDBOX (cutbox-rows.mjs): the forced cells as the released guide's own fill.sh prints them over the translation 4a7118004f59f088… (all of the seat's roots in one cut). By AI agents, Wed Nov 11 2026. No macro, syntax, notation, axiom, sorry.
-/
import Derived.Test.YtncmdhkmbmkiiaaDoorChecked
import GoSem.PinnedTables
import GoSem.Claim
import GoSem.ClaimJoined
import GoSem.ClaimMapViews
import Derived.JoinedTies
import Derived.KernelRfl
namespace Go.Proofs.YtncmdhkmbmkiiaaDoor
/- THE CELL 'sum', in the pinned program and in every row, IS THE sha256 OF THE DUMP (.gsa) THAT YtncmdhkmbmkiiaaDoorProg.lean LOADS. Nothing in Lean hashes anything: it is a label: what it is worth is what the hold of that sum in a sandbox is worth. -/
noncomputable def Tryd.pinned : Pinned := { name := "ytncmdhkmbmkiiaadoor", sum := "4a7118004f59f088232016cba878bdeeecac2deec4ab4c0852c5204c5aee159b", checked := Tryd.checked }
namespace Rows
def none {H : Type} : Left H := { results := [], args := [] }

/- WHAT THE LISTED PACKAGE-LEVEL VARIABLES READ AS WHEN THE CALL BEGINS. Each datum BY PROGRAM (the guide's laid-datum.mjs) off the statement by which the dump's own 'gosem.cut.vars' lays the variable. In a bare row this is a premise. The card (YtncmdhkmbmkiiaaDoorCards.lean) ties it to the program's text. -/
def laid_math_bits_deBruijn32tab {H : Type} : DataW H := .agg [.lit (.int .u8 0), .lit (.int .u8 1), .lit (.int .u8 28), .lit (.int .u8 2), .lit (.int .u8 29), .lit (.int .u8 14), .lit (.int .u8 24), .lit (.int .u8 3), .lit (.int .u8 30), .lit (.int .u8 22), .lit (.int .u8 20), .lit (.int .u8 15), .lit (.int .u8 25), .lit (.int .u8 17), .lit (.int .u8 4), .lit (.int .u8 8), .lit (.int .u8 31), .lit (.int .u8 27), .lit (.int .u8 13), .lit (.int .u8 23), .lit (.int .u8 21), .lit (.int .u8 19), .lit (.int .u8 16), .lit (.int .u8 7), .lit (.int .u8 26), .lit (.int .u8 12), .lit (.int .u8 18), .lit (.int .u8 6), .lit (.int .u8 11), .lit (.int .u8 5), .lit (.int .u8 10), .lit (.int .u8 9)]
def laid_math_bits_deBruijn64tab {H : Type} : DataW H := .agg [.lit (.int .u8 0), .lit (.int .u8 1), .lit (.int .u8 56), .lit (.int .u8 2), .lit (.int .u8 57), .lit (.int .u8 49), .lit (.int .u8 28), .lit (.int .u8 3), .lit (.int .u8 61), .lit (.int .u8 58), .lit (.int .u8 42), .lit (.int .u8 50), .lit (.int .u8 38), .lit (.int .u8 29), .lit (.int .u8 17), .lit (.int .u8 4), .lit (.int .u8 62), .lit (.int .u8 47), .lit (.int .u8 59), .lit (.int .u8 36), .lit (.int .u8 45), .lit (.int .u8 43), .lit (.int .u8 51), .lit (.int .u8 22), .lit (.int .u8 53), .lit (.int .u8 39), .lit (.int .u8 33), .lit (.int .u8 30), .lit (.int .u8 24), .lit (.int .u8 18), .lit (.int .u8 12), .lit (.int .u8 5), .lit (.int .u8 63), .lit (.int .u8 55), .lit (.int .u8 48), .lit (.int .u8 27), .lit (.int .u8 60), .lit (.int .u8 41), .lit (.int .u8 37), .lit (.int .u8 16), .lit (.int .u8 46), .lit (.int .u8 35), .lit (.int .u8 44), .lit (.int .u8 21), .lit (.int .u8 52), .lit (.int .u8 32), .lit (.int .u8 23), .lit (.int .u8 11), .lit (.int .u8 54), .lit (.int .u8 26), .lit (.int .u8 40), .lit (.int .u8 15), .lit (.int .u8 34), .lit (.int .u8 20), .lit (.int .u8 31), .lit (.int .u8 10), .lit (.int .u8 25), .lit (.int .u8 14), .lit (.int .u8 19), .lit (.int .u8 9), .lit (.int .u8 13), .lit (.int .u8 8), .lit (.int .u8 7), .lit (.int .u8 6)]
def laid_internal_strconv_uint64pow10 {H : Type} : DataW H := .agg [.lit (.int .u64 1), .lit (.int .u64 10), .lit (.int .u64 100), .lit (.int .u64 1000), .lit (.int .u64 10000), .lit (.int .u64 100000), .lit (.int .u64 1000000), .lit (.int .u64 10000000), .lit (.int .u64 100000000), .lit (.int .u64 1000000000), .lit (.int .u64 10000000000), .lit (.int .u64 100000000000), .lit (.int .u64 1000000000000), .lit (.int .u64 10000000000000), .lit (.int .u64 100000000000000), .lit (.int .u64 1000000000000000), .lit (.int .u64 10000000000000000), .lit (.int .u64 100000000000000000), .lit (.int .u64 1000000000000000000), .lit (.int .u64 10000000000000000000)]
def laid_unicode_utf8_acceptRanges {H : Type} : DataW H := .agg [.agg [.lit (.int .u8 128), .lit (.int .u8 191)], .agg [.lit (.int .u8 160), .lit (.int .u8 191)], .agg [.lit (.int .u8 128), .lit (.int .u8 159)], .agg [.lit (.int .u8 144), .lit (.int .u8 191)], .agg [.lit (.int .u8 128), .lit (.int .u8 143)], .agg [.lit (.int .u8 0), .lit (.int .u8 0)], .agg [.lit (.int .u8 0), .lit (.int .u8 0)], .agg [.lit (.int .u8 0), .lit (.int .u8 0)], .agg [.lit (.int .u8 0), .lit (.int .u8 0)], .agg [.lit (.int .u8 0), .lit (.int .u8 0)], .agg [.lit (.int .u8 0), .lit (.int .u8 0)], .agg [.lit (.int .u8 0), .lit (.int .u8 0)], .agg [.lit (.int .u8 0), .lit (.int .u8 0)], .agg [.lit (.int .u8 0), .lit (.int .u8 0)], .agg [.lit (.int .u8 0), .lit (.int .u8 0)], .agg [.lit (.int .u8 0), .lit (.int .u8 0)]]
def laid_strconv_ErrRange {H : Type} : DataW H := .iface "*errors.errorString" (.ptr (.agg [.lit (.string [118, 97, 108, 117, 101, 32, 111, 117, 116, 32, 111, 102, 32, 114, 97, 110, 103, 101])]))
def laid_strconv_ErrSyntax {H : Type} : DataW H := .iface "*errors.errorString" (.ptr (.agg [.lit (.string [105, 110, 118, 97, 108, 105, 100, 32, 115, 121, 110, 116, 97, 120])]))
/-- One of Go's own tables, pinned by name: the form's constant. -/
def laid_unicode_utf8_first : DataW Unit := Go.Pinned.utf8First

/-- 'captionerlaw41.RulesPairs': WHATEVER THE INPUT: true; the input reads as it did. -/
def rulesPairsSpec : ChangeSpec := { name := "rulesPairs", fn := fun _ => fun
  | [d1, d2, d3] => { results := [.lit (.bool true)], args := [d1, d2, d3] }
  | _ => none }
def rulesPairsRow : OpenClaim := { program := "ytncmdhkmbmkiiaadoor", sum := "4a7118004f59f088232016cba878bdeeecac2deec4ab4c0852c5204c5aee159b", func := "captioner/captionerlaw41.RulesPairs", spec := "rulesPairs", inPlace := ["internal/abi.NoEscape"], named := ["internal/strconv.uint64pow10", "math/bits.deBruijn32tab", "math/bits.deBruijn64tab"], apart := false, laid := [("math/bits.deBruijn32tab", laid_math_bits_deBruijn32tab), ("math/bits.deBruijn64tab", laid_math_bits_deBruijn64tab), ("internal/strconv.uint64pow10", laid_internal_strconv_uint64pow10)] }
def RulesPairsSaid : Prop := rulesPairsRow.holds Tryd.pinned (OpenSpec.ofChange rulesPairsSpec)

/-- ITS FALSE NEIGHBOUR: 'it returns false'. Refute it at one input. -/
def rulesPairsWrong : ChangeSpec := { name := "rulesPairs", fn := fun _ => fun
  | [d1, d2, d3] => { results := [.lit (.bool false)], args := [d1, d2, d3] }
  | _ => none }
def RulesPairsWrongFalsely : Prop := rulesPairsRow.holds Tryd.pinned (OpenSpec.ofChange rulesPairsWrong)

/-- 'captionerlaw41.RulesShots': WHATEVER THE INPUT: true; the input reads as it did. -/
def rulesShotsSpec : ChangeSpec := { name := "rulesShots", fn := fun _ => fun
  | [d1, d2, d3] => { results := [.lit (.bool true)], args := [d1, d2, d3] }
  | _ => none }
def rulesShotsRow : OpenClaim := { program := "ytncmdhkmbmkiiaadoor", sum := "4a7118004f59f088232016cba878bdeeecac2deec4ab4c0852c5204c5aee159b", func := "captioner/captionerlaw41.RulesShots", spec := "rulesShots", inPlace := ["internal/abi.NoEscape"], named := ["internal/strconv.uint64pow10", "math/bits.deBruijn32tab", "math/bits.deBruijn64tab"], apart := false, laid := [("math/bits.deBruijn32tab", laid_math_bits_deBruijn32tab), ("math/bits.deBruijn64tab", laid_math_bits_deBruijn64tab), ("internal/strconv.uint64pow10", laid_internal_strconv_uint64pow10)] }
def RulesShotsSaid : Prop := rulesShotsRow.holds Tryd.pinned (OpenSpec.ofChange rulesShotsSpec)

/-- ITS FALSE NEIGHBOUR: 'it returns false'. Refute it at one input. -/
def rulesShotsWrong : ChangeSpec := { name := "rulesShots", fn := fun _ => fun
  | [d1, d2, d3] => { results := [.lit (.bool false)], args := [d1, d2, d3] }
  | _ => none }
def RulesShotsWrongFalsely : Prop := rulesShotsRow.holds Tryd.pinned (OpenSpec.ofChange rulesShotsWrong)

/-- 'captionerlaw41.RulesApart': WHATEVER THE INPUT: true; the input reads as it did. -/
def rulesApartSpec : ChangeSpec := { name := "rulesApart", fn := fun _ => fun
  | [d1, d2, d3] => { results := [.lit (.bool true)], args := [d1, d2, d3] }
  | _ => none }
def rulesApartRow : OpenClaim := { program := "ytncmdhkmbmkiiaadoor", sum := "4a7118004f59f088232016cba878bdeeecac2deec4ab4c0852c5204c5aee159b", func := "captioner/captionerlaw41.RulesApart", spec := "rulesApart", inPlace := ["internal/abi.NoEscape"], named := ["internal/strconv.uint64pow10", "math/bits.deBruijn32tab", "math/bits.deBruijn64tab"], apart := false, laid := [("math/bits.deBruijn32tab", laid_math_bits_deBruijn32tab), ("math/bits.deBruijn64tab", laid_math_bits_deBruijn64tab), ("internal/strconv.uint64pow10", laid_internal_strconv_uint64pow10)] }
def RulesApartSaid : Prop := rulesApartRow.holds Tryd.pinned (OpenSpec.ofChange rulesApartSpec)

/-- ITS FALSE NEIGHBOUR: 'it returns false'. Refute it at one input. -/
def rulesApartWrong : ChangeSpec := { name := "rulesApart", fn := fun _ => fun
  | [d1, d2, d3] => { results := [.lit (.bool false)], args := [d1, d2, d3] }
  | _ => none }
def RulesApartWrongFalsely : Prop := rulesApartRow.holds Tryd.pinned (OpenSpec.ofChange rulesApartWrong)

/-- 'captionerlaw41.RulesClear': WHATEVER THE INPUT: true; the input reads as it did. -/
def rulesClearSpec : ChangeSpec := { name := "rulesClear", fn := fun _ => fun
  | [d1, d2, d3] => { results := [.lit (.bool true)], args := [d1, d2, d3] }
  | _ => none }
def rulesClearRow : OpenClaim := { program := "ytncmdhkmbmkiiaadoor", sum := "4a7118004f59f088232016cba878bdeeecac2deec4ab4c0852c5204c5aee159b", func := "captioner/captionerlaw41.RulesClear", spec := "rulesClear", inPlace := ["internal/abi.NoEscape"], named := ["internal/strconv.uint64pow10", "math/bits.deBruijn32tab", "math/bits.deBruijn64tab"], apart := false, laid := [("math/bits.deBruijn32tab", laid_math_bits_deBruijn32tab), ("math/bits.deBruijn64tab", laid_math_bits_deBruijn64tab), ("internal/strconv.uint64pow10", laid_internal_strconv_uint64pow10)] }
def RulesClearSaid : Prop := rulesClearRow.holds Tryd.pinned (OpenSpec.ofChange rulesClearSpec)

/-- ITS FALSE NEIGHBOUR: 'it returns false'. Refute it at one input. -/
def rulesClearWrong : ChangeSpec := { name := "rulesClear", fn := fun _ => fun
  | [d1, d2, d3] => { results := [.lit (.bool false)], args := [d1, d2, d3] }
  | _ => none }
def RulesClearWrongFalsely : Prop := rulesClearRow.holds Tryd.pinned (OpenSpec.ofChange rulesClearWrong)

/-- 'captionerlaw10.RegionPlaces': WHATEVER THE INPUT: true; the input reads as it did. -/
def regionPlacesSpec : ChangeSpec := { name := "regionPlaces", fn := fun _ => fun
  | [d1, d2, d3] => { results := [.lit (.bool true)], args := [d1, d2, d3] }
  | _ => none }
def regionPlacesRow : OpenClaim := { program := "ytncmdhkmbmkiiaadoor", sum := "4a7118004f59f088232016cba878bdeeecac2deec4ab4c0852c5204c5aee159b", func := "captioner/captionerlaw10.RegionPlaces", spec := "regionPlaces", inPlace := ["internal/abi.NoEscape", "internal/bytealg.MakeNoZero"], named := ["internal/strconv.uint64pow10", "math/bits.deBruijn32tab", "math/bits.deBruijn64tab"], apart := false, laid := [("math/bits.deBruijn32tab", laid_math_bits_deBruijn32tab), ("math/bits.deBruijn64tab", laid_math_bits_deBruijn64tab), ("internal/strconv.uint64pow10", laid_internal_strconv_uint64pow10)] }
def RegionPlacesSaid : Prop := regionPlacesRow.holds Tryd.pinned (OpenSpec.ofChange regionPlacesSpec)

/-- ITS FALSE NEIGHBOUR: 'it returns false'. Refute it at one input. -/
def regionPlacesWrong : ChangeSpec := { name := "regionPlaces", fn := fun _ => fun
  | [d1, d2, d3] => { results := [.lit (.bool false)], args := [d1, d2, d3] }
  | _ => none }
def RegionPlacesWrongFalsely : Prop := regionPlacesRow.holds Tryd.pinned (OpenSpec.ofChange regionPlacesWrong)

/-- 'captionerlaw10.RegionCells': WHATEVER THE INPUT: true; the input reads as it did. -/
def regionCellsSpec : ChangeSpec := { name := "regionCells", fn := fun _ => fun
  | [d1, d2, d3] => { results := [.lit (.bool true)], args := [d1, d2, d3] }
  | _ => none }
def regionCellsRow : OpenClaim := { program := "ytncmdhkmbmkiiaadoor", sum := "4a7118004f59f088232016cba878bdeeecac2deec4ab4c0852c5204c5aee159b", func := "captioner/captionerlaw10.RegionCells", spec := "regionCells", inPlace := ["internal/abi.NoEscape", "internal/bytealg.MakeNoZero"], named := ["internal/strconv.uint64pow10", "math/bits.deBruijn32tab", "math/bits.deBruijn64tab"], apart := false, laid := [("math/bits.deBruijn32tab", laid_math_bits_deBruijn32tab), ("math/bits.deBruijn64tab", laid_math_bits_deBruijn64tab), ("internal/strconv.uint64pow10", laid_internal_strconv_uint64pow10)] }
def RegionCellsSaid : Prop := regionCellsRow.holds Tryd.pinned (OpenSpec.ofChange regionCellsSpec)

/-- ITS FALSE NEIGHBOUR: 'it returns false'. Refute it at one input. -/
def regionCellsWrong : ChangeSpec := { name := "regionCells", fn := fun _ => fun
  | [d1, d2, d3] => { results := [.lit (.bool false)], args := [d1, d2, d3] }
  | _ => none }
def RegionCellsWrongFalsely : Prop := regionCellsRow.holds Tryd.pinned (OpenSpec.ofChange regionCellsWrong)

/-- 'captionerlaw10.RegionChecks': WHATEVER THE INPUT: true; the input reads as it did. -/
def regionChecksSpec : ChangeSpec := { name := "regionChecks", fn := fun _ => fun
  | [d1, d2] => { results := [.lit (.bool true)], args := [d1, d2] }
  | _ => none }
def regionChecksRow : OpenClaim := { program := "ytncmdhkmbmkiiaadoor", sum := "4a7118004f59f088232016cba878bdeeecac2deec4ab4c0852c5204c5aee159b", func := "captioner/captionerlaw10.RegionChecks", spec := "regionChecks", inPlace := ["internal/abi.NoEscape", "internal/bytealg.MakeNoZero"], named := ["internal/strconv.uint64pow10", "math/bits.deBruijn32tab", "math/bits.deBruijn64tab"], apart := false, laid := [("math/bits.deBruijn32tab", laid_math_bits_deBruijn32tab), ("math/bits.deBruijn64tab", laid_math_bits_deBruijn64tab), ("internal/strconv.uint64pow10", laid_internal_strconv_uint64pow10)] }
def RegionChecksSaid : Prop := regionChecksRow.holds Tryd.pinned (OpenSpec.ofChange regionChecksSpec)

/-- ITS FALSE NEIGHBOUR: 'it returns false'. Refute it at one input. -/
def regionChecksWrong : ChangeSpec := { name := "regionChecks", fn := fun _ => fun
  | [d1, d2] => { results := [.lit (.bool false)], args := [d1, d2] }
  | _ => none }
def RegionChecksWrongFalsely : Prop := regionChecksRow.holds Tryd.pinned (OpenSpec.ofChange regionChecksWrong)

/-- 'captionerlaw07.LinesSplits': WHATEVER THE INPUT: true; the input reads as it did. -/
def linesSplitsSpec : ChangeSpec := { name := "linesSplits", fn := fun _ => fun
  | [d] => { results := [.lit (.bool true)], args := [d] }
  | _ => none }
def linesSplitsRow : OpenClaim := { program := "ytncmdhkmbmkiiaadoor", sum := "4a7118004f59f088232016cba878bdeeecac2deec4ab4c0852c5204c5aee159b", func := "captioner/captionerlaw07.LinesSplits", spec := "linesSplits", inPlace := ["internal/bytealg.CountString", "internal/bytealg.IndexByteString", "internal/bytealg.IndexString"], named := ["unicode/utf8.first", "unicode/utf8.acceptRanges", "internal/bytealg.MaxLen", "strconv.ErrSyntax", "strconv.ErrRange", "internal/strconv.uint64pow10", "math/bits.deBruijn32tab", "math/bits.deBruijn64tab"], apart := false, laid := [("math/bits.deBruijn32tab", laid_math_bits_deBruijn32tab), ("math/bits.deBruijn64tab", laid_math_bits_deBruijn64tab), ("internal/strconv.uint64pow10", laid_internal_strconv_uint64pow10), ("unicode/utf8.acceptRanges", laid_unicode_utf8_acceptRanges), ("strconv.ErrRange", laid_strconv_ErrRange), ("strconv.ErrSyntax", laid_strconv_ErrSyntax), ("unicode/utf8.first", laid_unicode_utf8_first)] }
def LinesSplitsSaid : Prop := linesSplitsRow.holds Tryd.pinned (OpenSpec.ofChange linesSplitsSpec)

/-- ITS FALSE NEIGHBOUR: 'it returns false'. Refute it at one input. -/
def linesSplitsWrong : ChangeSpec := { name := "linesSplits", fn := fun _ => fun
  | [d] => { results := [.lit (.bool false)], args := [d] }
  | _ => none }
def LinesSplitsWrongFalsely : Prop := linesSplitsRow.holds Tryd.pinned (OpenSpec.ofChange linesSplitsWrong)

/-- 'captionerlaw07.LinesLong': WHATEVER THE INPUT: true; the input reads as it did. -/
def linesLongSpec : ChangeSpec := { name := "linesLong", fn := fun _ => fun
  | [d1, d2] => { results := [.lit (.bool true)], args := [d1, d2] }
  | _ => none }
def linesLongRow : OpenClaim := { program := "ytncmdhkmbmkiiaadoor", sum := "4a7118004f59f088232016cba878bdeeecac2deec4ab4c0852c5204c5aee159b", func := "captioner/captionerlaw07.LinesLong", spec := "linesLong", inPlace := ["internal/bytealg.CountString", "internal/bytealg.IndexByteString", "internal/bytealg.IndexString"], named := ["unicode/utf8.first", "unicode/utf8.acceptRanges", "internal/bytealg.MaxLen", "strconv.ErrSyntax", "strconv.ErrRange", "internal/strconv.uint64pow10", "math/bits.deBruijn32tab", "math/bits.deBruijn64tab"], apart := false, laid := [("math/bits.deBruijn32tab", laid_math_bits_deBruijn32tab), ("math/bits.deBruijn64tab", laid_math_bits_deBruijn64tab), ("internal/strconv.uint64pow10", laid_internal_strconv_uint64pow10), ("unicode/utf8.acceptRanges", laid_unicode_utf8_acceptRanges), ("strconv.ErrRange", laid_strconv_ErrRange), ("strconv.ErrSyntax", laid_strconv_ErrSyntax), ("unicode/utf8.first", laid_unicode_utf8_first)] }
def LinesLongSaid : Prop := linesLongRow.holds Tryd.pinned (OpenSpec.ofChange linesLongSpec)

/-- ITS FALSE NEIGHBOUR: 'it returns false'. Refute it at one input. -/
def linesLongWrong : ChangeSpec := { name := "linesLong", fn := fun _ => fun
  | [d1, d2] => { results := [.lit (.bool false)], args := [d1, d2] }
  | _ => none }
def LinesLongWrongFalsely : Prop := linesLongRow.holds Tryd.pinned (OpenSpec.ofChange linesLongWrong)

/-- 'captionerlaw07.LinesColumns': WHATEVER THE INPUT: true; the input reads as it did. -/
def linesColumnsSpec : ChangeSpec := { name := "linesColumns", fn := fun _ => fun
  | [d] => { results := [.lit (.bool true)], args := [d] }
  | _ => none }
def linesColumnsRow : OpenClaim := { program := "ytncmdhkmbmkiiaadoor", sum := "4a7118004f59f088232016cba878bdeeecac2deec4ab4c0852c5204c5aee159b", func := "captioner/captionerlaw07.LinesColumns", spec := "linesColumns", inPlace := ["internal/bytealg.CountString", "internal/bytealg.IndexByteString", "internal/bytealg.IndexString"], named := ["unicode/utf8.first", "unicode/utf8.acceptRanges", "internal/bytealg.MaxLen", "strconv.ErrSyntax", "strconv.ErrRange", "internal/strconv.uint64pow10", "math/bits.deBruijn32tab", "math/bits.deBruijn64tab"], apart := false, laid := [("math/bits.deBruijn32tab", laid_math_bits_deBruijn32tab), ("math/bits.deBruijn64tab", laid_math_bits_deBruijn64tab), ("internal/strconv.uint64pow10", laid_internal_strconv_uint64pow10), ("unicode/utf8.acceptRanges", laid_unicode_utf8_acceptRanges), ("strconv.ErrRange", laid_strconv_ErrRange), ("strconv.ErrSyntax", laid_strconv_ErrSyntax), ("unicode/utf8.first", laid_unicode_utf8_first)] }
def LinesColumnsSaid : Prop := linesColumnsRow.holds Tryd.pinned (OpenSpec.ofChange linesColumnsSpec)

/-- ITS FALSE NEIGHBOUR: 'it returns false'. Refute it at one input. -/
def linesColumnsWrong : ChangeSpec := { name := "linesColumns", fn := fun _ => fun
  | [d] => { results := [.lit (.bool false)], args := [d] }
  | _ => none }
def LinesColumnsWrongFalsely : Prop := linesColumnsRow.holds Tryd.pinned (OpenSpec.ofChange linesColumnsWrong)

/-- 'captionerlaw07.LinesQuotes': WHATEVER THE INPUT: true; the input reads as it did. -/
def linesQuotesSpec : ChangeSpec := { name := "linesQuotes", fn := fun _ => fun
  | [d] => { results := [.lit (.bool true)], args := [d] }
  | _ => none }
def linesQuotesRow : OpenClaim := { program := "ytncmdhkmbmkiiaadoor", sum := "4a7118004f59f088232016cba878bdeeecac2deec4ab4c0852c5204c5aee159b", func := "captioner/captionerlaw07.LinesQuotes", spec := "linesQuotes", inPlace := ["internal/bytealg.CountString", "internal/bytealg.IndexByteString", "internal/bytealg.IndexString"], named := ["unicode/utf8.first", "unicode/utf8.acceptRanges", "internal/bytealg.MaxLen", "strconv.ErrSyntax", "strconv.ErrRange", "internal/strconv.uint64pow10", "math/bits.deBruijn32tab", "math/bits.deBruijn64tab"], apart := false, laid := [("math/bits.deBruijn32tab", laid_math_bits_deBruijn32tab), ("math/bits.deBruijn64tab", laid_math_bits_deBruijn64tab), ("internal/strconv.uint64pow10", laid_internal_strconv_uint64pow10), ("unicode/utf8.acceptRanges", laid_unicode_utf8_acceptRanges), ("strconv.ErrRange", laid_strconv_ErrRange), ("strconv.ErrSyntax", laid_strconv_ErrSyntax), ("unicode/utf8.first", laid_unicode_utf8_first)] }
def LinesQuotesSaid : Prop := linesQuotesRow.holds Tryd.pinned (OpenSpec.ofChange linesQuotesSpec)

/-- ITS FALSE NEIGHBOUR: 'it returns false'. Refute it at one input. -/
def linesQuotesWrong : ChangeSpec := { name := "linesQuotes", fn := fun _ => fun
  | [d] => { results := [.lit (.bool false)], args := [d] }
  | _ => none }
def LinesQuotesWrongFalsely : Prop := linesQuotesRow.holds Tryd.pinned (OpenSpec.ofChange linesQuotesWrong)

/-- 'captionerlaw07.LinesNumbers': WHATEVER THE INPUT: true; the input reads as it did. -/
def linesNumbersSpec : ChangeSpec := { name := "linesNumbers", fn := fun _ => fun
  | [d1, d2, d3] => { results := [.lit (.bool true)], args := [d1, d2, d3] }
  | _ => none }
def linesNumbersRow : OpenClaim := { program := "ytncmdhkmbmkiiaadoor", sum := "4a7118004f59f088232016cba878bdeeecac2deec4ab4c0852c5204c5aee159b", func := "captioner/captionerlaw07.LinesNumbers", spec := "linesNumbers", inPlace := ["internal/bytealg.CountString", "internal/bytealg.IndexByteString", "internal/bytealg.IndexString"], named := ["unicode/utf8.first", "unicode/utf8.acceptRanges", "internal/bytealg.MaxLen", "strconv.ErrSyntax", "strconv.ErrRange", "internal/strconv.uint64pow10", "math/bits.deBruijn32tab", "math/bits.deBruijn64tab"], apart := false, laid := [("math/bits.deBruijn32tab", laid_math_bits_deBruijn32tab), ("math/bits.deBruijn64tab", laid_math_bits_deBruijn64tab), ("internal/strconv.uint64pow10", laid_internal_strconv_uint64pow10), ("unicode/utf8.acceptRanges", laid_unicode_utf8_acceptRanges), ("strconv.ErrRange", laid_strconv_ErrRange), ("strconv.ErrSyntax", laid_strconv_ErrSyntax), ("unicode/utf8.first", laid_unicode_utf8_first)] }
def LinesNumbersSaid : Prop := linesNumbersRow.holds Tryd.pinned (OpenSpec.ofChange linesNumbersSpec)

/-- ITS FALSE NEIGHBOUR: 'it returns false'. Refute it at one input. -/
def linesNumbersWrong : ChangeSpec := { name := "linesNumbers", fn := fun _ => fun
  | [d1, d2, d3] => { results := [.lit (.bool false)], args := [d1, d2, d3] }
  | _ => none }
def LinesNumbersWrongFalsely : Prop := linesNumbersRow.holds Tryd.pinned (OpenSpec.ofChange linesNumbersWrong)

/- THE SECOND FORM. 'bulk': how many values and letters a reading holds, each counted each time it is reached (what is shared counts as often as it is met; a slice's spare places count too). A statement '..UptoSaid' is the law's where the arguments, and the package variables that the reading takes, are together of bulk at most 1048576: NARROWER than '..Said'. Prove '..Said' where nothing that the law and all that it calls make is longer than what came in: it says more and counts as full. Else prove '..UptoSaid'. A law counts once. -/
mutual
def uptoBulk {H : Type} : DataW H → Nat
  | .lit (.string bytes) => bytes.length + 1
  | .lit _ => 1
  | .nil => 1
  | .ptr d => uptoBulk d + 1
  | .slice elems spare => uptoBulkAll elems + uptoBulkAll spare + 1
  | .agg parts => uptoBulkAll parts + 1
  | .iface _ d => uptoBulk d + 1
  | .map entries => uptoBulkEntries entries + 1
  | .held _ => 1
def uptoBulkAll {H : Type} : List (DataW H) → Nat
  | [] => 0
  | d :: r => uptoBulk d + uptoBulkAll r
def uptoBulkEntries {H : Type} : List (Lit × DataW H) → Nat
  | [] => 0
  | x :: r => uptoBulkEntry x + uptoBulkEntries r
def uptoBulkEntry {H : Type} : Lit × DataW H → Nat
  | (.string bytes, d) => bytes.length + uptoBulk d + 1
  | (_, d) => uptoBulk d + 1
 end
def uptoSmall : (H : Type) → List (DataW H) → Bool := fun _ ds => decide (uptoBulkAll ds ≤ 1048576)
def OpenSpec.upto (s : _root_.Go.ChangeSpec) : _root_.Go.OpenSpec := { _root_.Go.OpenSpec.ofChange s with cond := some uptoSmall }

/-- 'captionerlaw41.RulesPairs', WHERE WHAT IT READS IS OF BULK AT MOST 1048576: true; the input reads as it did. -/
def rulesPairsUptoRow : OpenClaim := { program := "ytncmdhkmbmkiiaadoor", sum := "4a7118004f59f088232016cba878bdeeecac2deec4ab4c0852c5204c5aee159b", func := "captioner/captionerlaw41.RulesPairs", spec := "rulesPairs", inPlace := ["internal/abi.NoEscape"], named := ["internal/strconv.uint64pow10", "math/bits.deBruijn32tab", "math/bits.deBruijn64tab"], apart := false, laid := [("math/bits.deBruijn32tab", laid_math_bits_deBruijn32tab), ("math/bits.deBruijn64tab", laid_math_bits_deBruijn64tab), ("internal/strconv.uint64pow10", laid_internal_strconv_uint64pow10)], narrowed := true }
def RulesPairsUptoSaid : Prop := rulesPairsUptoRow.holds Tryd.pinned (OpenSpec.upto rulesPairsSpec)

/-- 'captionerlaw41.RulesShots', WHERE WHAT IT READS IS OF BULK AT MOST 1048576: true; the input reads as it did. -/
def rulesShotsUptoRow : OpenClaim := { program := "ytncmdhkmbmkiiaadoor", sum := "4a7118004f59f088232016cba878bdeeecac2deec4ab4c0852c5204c5aee159b", func := "captioner/captionerlaw41.RulesShots", spec := "rulesShots", inPlace := ["internal/abi.NoEscape"], named := ["internal/strconv.uint64pow10", "math/bits.deBruijn32tab", "math/bits.deBruijn64tab"], apart := false, laid := [("math/bits.deBruijn32tab", laid_math_bits_deBruijn32tab), ("math/bits.deBruijn64tab", laid_math_bits_deBruijn64tab), ("internal/strconv.uint64pow10", laid_internal_strconv_uint64pow10)], narrowed := true }
def RulesShotsUptoSaid : Prop := rulesShotsUptoRow.holds Tryd.pinned (OpenSpec.upto rulesShotsSpec)

/-- 'captionerlaw41.RulesApart', WHERE WHAT IT READS IS OF BULK AT MOST 1048576: true; the input reads as it did. -/
def rulesApartUptoRow : OpenClaim := { program := "ytncmdhkmbmkiiaadoor", sum := "4a7118004f59f088232016cba878bdeeecac2deec4ab4c0852c5204c5aee159b", func := "captioner/captionerlaw41.RulesApart", spec := "rulesApart", inPlace := ["internal/abi.NoEscape"], named := ["internal/strconv.uint64pow10", "math/bits.deBruijn32tab", "math/bits.deBruijn64tab"], apart := false, laid := [("math/bits.deBruijn32tab", laid_math_bits_deBruijn32tab), ("math/bits.deBruijn64tab", laid_math_bits_deBruijn64tab), ("internal/strconv.uint64pow10", laid_internal_strconv_uint64pow10)], narrowed := true }
def RulesApartUptoSaid : Prop := rulesApartUptoRow.holds Tryd.pinned (OpenSpec.upto rulesApartSpec)

/-- 'captionerlaw41.RulesClear', WHERE WHAT IT READS IS OF BULK AT MOST 1048576: true; the input reads as it did. -/
def rulesClearUptoRow : OpenClaim := { program := "ytncmdhkmbmkiiaadoor", sum := "4a7118004f59f088232016cba878bdeeecac2deec4ab4c0852c5204c5aee159b", func := "captioner/captionerlaw41.RulesClear", spec := "rulesClear", inPlace := ["internal/abi.NoEscape"], named := ["internal/strconv.uint64pow10", "math/bits.deBruijn32tab", "math/bits.deBruijn64tab"], apart := false, laid := [("math/bits.deBruijn32tab", laid_math_bits_deBruijn32tab), ("math/bits.deBruijn64tab", laid_math_bits_deBruijn64tab), ("internal/strconv.uint64pow10", laid_internal_strconv_uint64pow10)], narrowed := true }
def RulesClearUptoSaid : Prop := rulesClearUptoRow.holds Tryd.pinned (OpenSpec.upto rulesClearSpec)

/-- 'captionerlaw10.RegionPlaces', WHERE WHAT IT READS IS OF BULK AT MOST 1048576: true; the input reads as it did. -/
def regionPlacesUptoRow : OpenClaim := { program := "ytncmdhkmbmkiiaadoor", sum := "4a7118004f59f088232016cba878bdeeecac2deec4ab4c0852c5204c5aee159b", func := "captioner/captionerlaw10.RegionPlaces", spec := "regionPlaces", inPlace := ["internal/abi.NoEscape", "internal/bytealg.MakeNoZero"], named := ["internal/strconv.uint64pow10", "math/bits.deBruijn32tab", "math/bits.deBruijn64tab"], apart := false, laid := [("math/bits.deBruijn32tab", laid_math_bits_deBruijn32tab), ("math/bits.deBruijn64tab", laid_math_bits_deBruijn64tab), ("internal/strconv.uint64pow10", laid_internal_strconv_uint64pow10)], narrowed := true }
def RegionPlacesUptoSaid : Prop := regionPlacesUptoRow.holds Tryd.pinned (OpenSpec.upto regionPlacesSpec)

/-- 'captionerlaw10.RegionCells', WHERE WHAT IT READS IS OF BULK AT MOST 1048576: true; the input reads as it did. -/
def regionCellsUptoRow : OpenClaim := { program := "ytncmdhkmbmkiiaadoor", sum := "4a7118004f59f088232016cba878bdeeecac2deec4ab4c0852c5204c5aee159b", func := "captioner/captionerlaw10.RegionCells", spec := "regionCells", inPlace := ["internal/abi.NoEscape", "internal/bytealg.MakeNoZero"], named := ["internal/strconv.uint64pow10", "math/bits.deBruijn32tab", "math/bits.deBruijn64tab"], apart := false, laid := [("math/bits.deBruijn32tab", laid_math_bits_deBruijn32tab), ("math/bits.deBruijn64tab", laid_math_bits_deBruijn64tab), ("internal/strconv.uint64pow10", laid_internal_strconv_uint64pow10)], narrowed := true }
def RegionCellsUptoSaid : Prop := regionCellsUptoRow.holds Tryd.pinned (OpenSpec.upto regionCellsSpec)

/-- 'captionerlaw10.RegionChecks', WHERE WHAT IT READS IS OF BULK AT MOST 1048576: true; the input reads as it did. -/
def regionChecksUptoRow : OpenClaim := { program := "ytncmdhkmbmkiiaadoor", sum := "4a7118004f59f088232016cba878bdeeecac2deec4ab4c0852c5204c5aee159b", func := "captioner/captionerlaw10.RegionChecks", spec := "regionChecks", inPlace := ["internal/abi.NoEscape", "internal/bytealg.MakeNoZero"], named := ["internal/strconv.uint64pow10", "math/bits.deBruijn32tab", "math/bits.deBruijn64tab"], apart := false, laid := [("math/bits.deBruijn32tab", laid_math_bits_deBruijn32tab), ("math/bits.deBruijn64tab", laid_math_bits_deBruijn64tab), ("internal/strconv.uint64pow10", laid_internal_strconv_uint64pow10)], narrowed := true }
def RegionChecksUptoSaid : Prop := regionChecksUptoRow.holds Tryd.pinned (OpenSpec.upto regionChecksSpec)

/-- 'captionerlaw07.LinesSplits', WHERE WHAT IT READS IS OF BULK AT MOST 1048576: true; the input reads as it did. -/
def linesSplitsUptoRow : OpenClaim := { program := "ytncmdhkmbmkiiaadoor", sum := "4a7118004f59f088232016cba878bdeeecac2deec4ab4c0852c5204c5aee159b", func := "captioner/captionerlaw07.LinesSplits", spec := "linesSplits", inPlace := ["internal/bytealg.CountString", "internal/bytealg.IndexByteString", "internal/bytealg.IndexString"], named := ["unicode/utf8.first", "unicode/utf8.acceptRanges", "internal/bytealg.MaxLen", "strconv.ErrSyntax", "strconv.ErrRange", "internal/strconv.uint64pow10", "math/bits.deBruijn32tab", "math/bits.deBruijn64tab"], apart := false, laid := [("math/bits.deBruijn32tab", laid_math_bits_deBruijn32tab), ("math/bits.deBruijn64tab", laid_math_bits_deBruijn64tab), ("internal/strconv.uint64pow10", laid_internal_strconv_uint64pow10), ("unicode/utf8.acceptRanges", laid_unicode_utf8_acceptRanges), ("strconv.ErrRange", laid_strconv_ErrRange), ("strconv.ErrSyntax", laid_strconv_ErrSyntax), ("unicode/utf8.first", laid_unicode_utf8_first)], narrowed := true }
def LinesSplitsUptoSaid : Prop := linesSplitsUptoRow.holds Tryd.pinned (OpenSpec.upto linesSplitsSpec)

/-- 'captionerlaw07.LinesLong', WHERE WHAT IT READS IS OF BULK AT MOST 1048576: true; the input reads as it did. -/
def linesLongUptoRow : OpenClaim := { program := "ytncmdhkmbmkiiaadoor", sum := "4a7118004f59f088232016cba878bdeeecac2deec4ab4c0852c5204c5aee159b", func := "captioner/captionerlaw07.LinesLong", spec := "linesLong", inPlace := ["internal/bytealg.CountString", "internal/bytealg.IndexByteString", "internal/bytealg.IndexString"], named := ["unicode/utf8.first", "unicode/utf8.acceptRanges", "internal/bytealg.MaxLen", "strconv.ErrSyntax", "strconv.ErrRange", "internal/strconv.uint64pow10", "math/bits.deBruijn32tab", "math/bits.deBruijn64tab"], apart := false, laid := [("math/bits.deBruijn32tab", laid_math_bits_deBruijn32tab), ("math/bits.deBruijn64tab", laid_math_bits_deBruijn64tab), ("internal/strconv.uint64pow10", laid_internal_strconv_uint64pow10), ("unicode/utf8.acceptRanges", laid_unicode_utf8_acceptRanges), ("strconv.ErrRange", laid_strconv_ErrRange), ("strconv.ErrSyntax", laid_strconv_ErrSyntax), ("unicode/utf8.first", laid_unicode_utf8_first)], narrowed := true }
def LinesLongUptoSaid : Prop := linesLongUptoRow.holds Tryd.pinned (OpenSpec.upto linesLongSpec)

/-- 'captionerlaw07.LinesColumns', WHERE WHAT IT READS IS OF BULK AT MOST 1048576: true; the input reads as it did. -/
def linesColumnsUptoRow : OpenClaim := { program := "ytncmdhkmbmkiiaadoor", sum := "4a7118004f59f088232016cba878bdeeecac2deec4ab4c0852c5204c5aee159b", func := "captioner/captionerlaw07.LinesColumns", spec := "linesColumns", inPlace := ["internal/bytealg.CountString", "internal/bytealg.IndexByteString", "internal/bytealg.IndexString"], named := ["unicode/utf8.first", "unicode/utf8.acceptRanges", "internal/bytealg.MaxLen", "strconv.ErrSyntax", "strconv.ErrRange", "internal/strconv.uint64pow10", "math/bits.deBruijn32tab", "math/bits.deBruijn64tab"], apart := false, laid := [("math/bits.deBruijn32tab", laid_math_bits_deBruijn32tab), ("math/bits.deBruijn64tab", laid_math_bits_deBruijn64tab), ("internal/strconv.uint64pow10", laid_internal_strconv_uint64pow10), ("unicode/utf8.acceptRanges", laid_unicode_utf8_acceptRanges), ("strconv.ErrRange", laid_strconv_ErrRange), ("strconv.ErrSyntax", laid_strconv_ErrSyntax), ("unicode/utf8.first", laid_unicode_utf8_first)], narrowed := true }
def LinesColumnsUptoSaid : Prop := linesColumnsUptoRow.holds Tryd.pinned (OpenSpec.upto linesColumnsSpec)

/-- 'captionerlaw07.LinesQuotes', WHERE WHAT IT READS IS OF BULK AT MOST 1048576: true; the input reads as it did. -/
def linesQuotesUptoRow : OpenClaim := { program := "ytncmdhkmbmkiiaadoor", sum := "4a7118004f59f088232016cba878bdeeecac2deec4ab4c0852c5204c5aee159b", func := "captioner/captionerlaw07.LinesQuotes", spec := "linesQuotes", inPlace := ["internal/bytealg.CountString", "internal/bytealg.IndexByteString", "internal/bytealg.IndexString"], named := ["unicode/utf8.first", "unicode/utf8.acceptRanges", "internal/bytealg.MaxLen", "strconv.ErrSyntax", "strconv.ErrRange", "internal/strconv.uint64pow10", "math/bits.deBruijn32tab", "math/bits.deBruijn64tab"], apart := false, laid := [("math/bits.deBruijn32tab", laid_math_bits_deBruijn32tab), ("math/bits.deBruijn64tab", laid_math_bits_deBruijn64tab), ("internal/strconv.uint64pow10", laid_internal_strconv_uint64pow10), ("unicode/utf8.acceptRanges", laid_unicode_utf8_acceptRanges), ("strconv.ErrRange", laid_strconv_ErrRange), ("strconv.ErrSyntax", laid_strconv_ErrSyntax), ("unicode/utf8.first", laid_unicode_utf8_first)], narrowed := true }
def LinesQuotesUptoSaid : Prop := linesQuotesUptoRow.holds Tryd.pinned (OpenSpec.upto linesQuotesSpec)

/-- 'captionerlaw07.LinesNumbers', WHERE WHAT IT READS IS OF BULK AT MOST 1048576: true; the input reads as it did. -/
def linesNumbersUptoRow : OpenClaim := { program := "ytncmdhkmbmkiiaadoor", sum := "4a7118004f59f088232016cba878bdeeecac2deec4ab4c0852c5204c5aee159b", func := "captioner/captionerlaw07.LinesNumbers", spec := "linesNumbers", inPlace := ["internal/bytealg.CountString", "internal/bytealg.IndexByteString", "internal/bytealg.IndexString"], named := ["unicode/utf8.first", "unicode/utf8.acceptRanges", "internal/bytealg.MaxLen", "strconv.ErrSyntax", "strconv.ErrRange", "internal/strconv.uint64pow10", "math/bits.deBruijn32tab", "math/bits.deBruijn64tab"], apart := false, laid := [("math/bits.deBruijn32tab", laid_math_bits_deBruijn32tab), ("math/bits.deBruijn64tab", laid_math_bits_deBruijn64tab), ("internal/strconv.uint64pow10", laid_internal_strconv_uint64pow10), ("unicode/utf8.acceptRanges", laid_unicode_utf8_acceptRanges), ("strconv.ErrRange", laid_strconv_ErrRange), ("strconv.ErrSyntax", laid_strconv_ErrSyntax), ("unicode/utf8.first", laid_unicode_utf8_first)], narrowed := true }
def LinesNumbersUptoSaid : Prop := linesNumbersUptoRow.holds Tryd.pinned (OpenSpec.upto linesNumbersSpec)

end Rows
end Go.Proofs.YtncmdhkmbmkiiaaDoor
