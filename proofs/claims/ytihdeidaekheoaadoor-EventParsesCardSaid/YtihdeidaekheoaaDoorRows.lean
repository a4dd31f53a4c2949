/-
  NARROWER THAN 'FOR EVERY INPUT', by the rows' own cells (each row's printed sentence says how): EventUnlike: laid · EventMay: laid · EventFormats: laid · EventParses: laid · EventCompares: laid · EventBytes: laid · EventDecodes: laid · EventRows: laid · EventSorts: laid.
  DERIVED. THE GIVEN ROWS OF THIS SEAT. 9 by the template 'for every input the law returns true; each argument reads behind the call as it read before'; 0 by the template 'total and deterministic' (their statements: YtihdeidaekheoaaDoorTotals.lean).
  GIVEN WITH THE SEED: the statements are not yours to turn. If you find one false, say at which input.
  Laid BY PROGRAM, IN A SANDBOX (cutbox-rows.mjs): the forced cells as the released guide's own fill.sh prints them over the translation 9205fa0821e20e5d… (all of the seat's roots in one cut). By AI agents, Wed Nov 11 2026. No macro, syntax, notation, axiom, sorry.
-/
import Derived.Test.YtihdeidaekheoaaDoorChecked
import GoSem.PinnedTables
import GoSem.Claim
import GoSem.ClaimJoined
import GoSem.ClaimMapViews
import Derived.JoinedTies
import Derived.KernelRfl
namespace Go.Proofs.YtihdeidaekheoaaDoor
/- THE CELL 'sum', in the pinned program and in every row, IS THE sha256 OF THE DUMP (.gsa) THAT YtihdeidaekheoaaDoorProg.lean LOADS. Nothing in Lean hashes anything: it is a label: what it is worth is what the hold of that sum in a sandbox is worth. -/
noncomputable def Tryd.pinned : Pinned := { name := "ytihdeidaekheoaadoor", sum := "9205fa0821e20e5dcc32c5f9f4b088ce846a8403f9fd146839d8c22a7aae2898", checked := Tryd.checked }
namespace Rows
def none {H : Type} : Left H := { results := [], args := [] }

/- WHAT THE LISTED PACKAGE-LEVEL VARIABLES READ AS WHEN THE CALL BEGINS. Each datum BY PROGRAM (the guide's laid-datum.mjs) off the statement by which the dump's own 'gosem.cut.vars' lays the variable. In a bare row this is a premise. The card (YtihdeidaekheoaaDoorCards.lean) ties it to the program's text. -/
def laid_math_bits_deBruijn32tab {H : Type} : DataW H := .agg [.lit (.int .u8 0), .lit (.int .u8 1), .lit (.int .u8 28), .lit (.int .u8 2), .lit (.int .u8 29), .lit (.int .u8 14), .lit (.int .u8 24), .lit (.int .u8 3), .lit (.int .u8 30), .lit (.int .u8 22), .lit (.int .u8 20), .lit (.int .u8 15), .lit (.int .u8 25), .lit (.int .u8 17), .lit (.int .u8 4), .lit (.int .u8 8), .lit (.int .u8 31), .lit (.int .u8 27), .lit (.int .u8 13), .lit (.int .u8 23), .lit (.int .u8 21), .lit (.int .u8 19), .lit (.int .u8 16), .lit (.int .u8 7), .lit (.int .u8 26), .lit (.int .u8 12), .lit (.int .u8 18), .lit (.int .u8 6), .lit (.int .u8 11), .lit (.int .u8 5), .lit (.int .u8 10), .lit (.int .u8 9)]
def laid_math_bits_deBruijn64tab {H : Type} : DataW H := .agg [.lit (.int .u8 0), .lit (.int .u8 1), .lit (.int .u8 56), .lit (.int .u8 2), .lit (.int .u8 57), .lit (.int .u8 49), .lit (.int .u8 28), .lit (.int .u8 3), .lit (.int .u8 61), .lit (.int .u8 58), .lit (.int .u8 42), .lit (.int .u8 50), .lit (.int .u8 38), .lit (.int .u8 29), .lit (.int .u8 17), .lit (.int .u8 4), .lit (.int .u8 62), .lit (.int .u8 47), .lit (.int .u8 59), .lit (.int .u8 36), .lit (.int .u8 45), .lit (.int .u8 43), .lit (.int .u8 51), .lit (.int .u8 22), .lit (.int .u8 53), .lit (.int .u8 39), .lit (.int .u8 33), .lit (.int .u8 30), .lit (.int .u8 24), .lit (.int .u8 18), .lit (.int .u8 12), .lit (.int .u8 5), .lit (.int .u8 63), .lit (.int .u8 55), .lit (.int .u8 48), .lit (.int .u8 27), .lit (.int .u8 60), .lit (.int .u8 41), .lit (.int .u8 37), .lit (.int .u8 16), .lit (.int .u8 46), .lit (.int .u8 35), .lit (.int .u8 44), .lit (.int .u8 21), .lit (.int .u8 52), .lit (.int .u8 32), .lit (.int .u8 23), .lit (.int .u8 11), .lit (.int .u8 54), .lit (.int .u8 26), .lit (.int .u8 40), .lit (.int .u8 15), .lit (.int .u8 34), .lit (.int .u8 20), .lit (.int .u8 31), .lit (.int .u8 10), .lit (.int .u8 25), .lit (.int .u8 14), .lit (.int .u8 19), .lit (.int .u8 9), .lit (.int .u8 13), .lit (.int .u8 8), .lit (.int .u8 7), .lit (.int .u8 6)]
def laid_internal_strconv_uint64pow10 {H : Type} : DataW H := .agg [.lit (.int .u64 1), .lit (.int .u64 10), .lit (.int .u64 100), .lit (.int .u64 1000), .lit (.int .u64 10000), .lit (.int .u64 100000), .lit (.int .u64 1000000), .lit (.int .u64 10000000), .lit (.int .u64 100000000), .lit (.int .u64 1000000000), .lit (.int .u64 10000000000), .lit (.int .u64 100000000000), .lit (.int .u64 1000000000000), .lit (.int .u64 10000000000000), .lit (.int .u64 100000000000000), .lit (.int .u64 1000000000000000), .lit (.int .u64 10000000000000000), .lit (.int .u64 100000000000000000), .lit (.int .u64 1000000000000000000), .lit (.int .u64 10000000000000000000)]
def laid_unicode_utf8_acceptRanges {H : Type} : DataW H := .agg [.agg [.lit (.int .u8 128), .lit (.int .u8 191)], .agg [.lit (.int .u8 160), .lit (.int .u8 191)], .agg [.lit (.int .u8 128), .lit (.int .u8 159)], .agg [.lit (.int .u8 144), .lit (.int .u8 191)], .agg [.lit (.int .u8 128), .lit (.int .u8 143)], .agg [.lit (.int .u8 0), .lit (.int .u8 0)], .agg [.lit (.int .u8 0), .lit (.int .u8 0)], .agg [.lit (.int .u8 0), .lit (.int .u8 0)], .agg [.lit (.int .u8 0), .lit (.int .u8 0)], .agg [.lit (.int .u8 0), .lit (.int .u8 0)], .agg [.lit (.int .u8 0), .lit (.int .u8 0)], .agg [.lit (.int .u8 0), .lit (.int .u8 0)], .agg [.lit (.int .u8 0), .lit (.int .u8 0)], .agg [.lit (.int .u8 0), .lit (.int .u8 0)], .agg [.lit (.int .u8 0), .lit (.int .u8 0)], .agg [.lit (.int .u8 0), .lit (.int .u8 0)]]
def laid_cicerone_event_kindNames {H : Type} : DataW H := .agg [.lit (.string [115, 101, 101, 110]), .lit (.string [111, 112, 101, 110, 101, 100]), .lit (.string [102, 105, 110, 105, 115, 104, 101, 100]), .lit (.string [98, 111, 117, 103, 104, 116]), .lit (.string [114, 97, 116, 101, 100]), .lit (.string [104, 105, 100, 100, 101, 110]), .lit (.string [117, 110, 104, 105, 100, 100, 101, 110]), .lit (.string [102, 111, 108, 108, 111, 119, 101, 100]), .lit (.string [117, 110, 102, 111, 108, 108, 111, 119, 101, 100]), .lit (.string [109, 117, 116, 101, 100]), .lit (.string [117, 110, 109, 117, 116, 101, 100]), .lit (.string [108, 105, 115, 116, 101, 100]), .lit (.string [115, 116, 111, 99, 107, 101, 100]), .lit (.string [100, 101, 108, 105, 115, 116, 101, 100]), .lit (.string [102, 111, 114, 103, 111, 116, 116, 101, 110])]
/-- One of Go's own tables, pinned by name: the form's constant. -/
def laid_unicode_utf8_first : DataW Unit := Go.Pinned.utf8First

/-- 'ciceronelaw02.EventUnlike': WHATEVER THE INPUT: true; the input reads as it did. -/
def eventUnlikeSpec : ChangeSpec := { name := "eventUnlike", fn := fun _ => fun
  | [d1, d2] => { results := [.lit (.bool true)], args := [d1, d2] }
  | _ => none }
def eventUnlikeRow : OpenClaim := { program := "ytihdeidaekheoaadoor", sum := "9205fa0821e20e5dcc32c5f9f4b088ce846a8403f9fd146839d8c22a7aae2898", func := "cicerone/ciceronelaw02.EventUnlike", spec := "eventUnlike", inPlace := ["internal/bytealg.IndexByteString", "internal/bytealg.IndexString", "internal/bytealg.CountString", "internal/abi.NoEscape", "internal/bytealg.MakeNoZero"], named := ["internal/bytealg.MaxLen", "unicode/utf8.first", "unicode/utf8.acceptRanges", "cicerone/event.kindNames", "internal/strconv.uint64pow10", "math/bits.deBruijn32tab", "math/bits.deBruijn64tab"], apart := false, laid := [("math/bits.deBruijn32tab", laid_math_bits_deBruijn32tab), ("math/bits.deBruijn64tab", laid_math_bits_deBruijn64tab), ("internal/strconv.uint64pow10", laid_internal_strconv_uint64pow10), ("unicode/utf8.acceptRanges", laid_unicode_utf8_acceptRanges), ("cicerone/event.kindNames", laid_cicerone_event_kindNames), ("unicode/utf8.first", laid_unicode_utf8_first)] }
def EventUnlikeSaid : Prop := eventUnlikeRow.holds Tryd.pinned (OpenSpec.ofChange eventUnlikeSpec)

/-- ITS FALSE NEIGHBOUR: 'it returns false'. Refute it at one input. -/
def eventUnlikeWrong : ChangeSpec := { name := "eventUnlike", fn := fun _ => fun
  | [d1, d2] => { results := [.lit (.bool false)], args := [d1, d2] }
  | _ => none }
def EventUnlikeWrongFalsely : Prop := eventUnlikeRow.holds Tryd.pinned (OpenSpec.ofChange eventUnlikeWrong)

/-- 'ciceronelaw02.EventMay': WHATEVER THE INPUT: true; the input reads as it did. -/
def eventMaySpec : ChangeSpec := { name := "eventMay", fn := fun _ => fun
  | [d1, d2] => { results := [.lit (.bool true)], args := [d1, d2] }
  | _ => none }
def eventMayRow : OpenClaim := { program := "ytihdeidaekheoaadoor", sum := "9205fa0821e20e5dcc32c5f9f4b088ce846a8403f9fd146839d8c22a7aae2898", func := "cicerone/ciceronelaw02.EventMay", spec := "eventMay", inPlace := ["internal/bytealg.IndexByteString", "internal/bytealg.IndexString", "internal/bytealg.CountString", "internal/abi.NoEscape", "internal/bytealg.MakeNoZero"], named := ["internal/bytealg.MaxLen", "unicode/utf8.first", "unicode/utf8.acceptRanges", "cicerone/event.kindNames", "internal/strconv.uint64pow10", "math/bits.deBruijn32tab", "math/bits.deBruijn64tab"], apart := false, laid := [("math/bits.deBruijn32tab", laid_math_bits_deBruijn32tab), ("math/bits.deBruijn64tab", laid_math_bits_deBruijn64tab), ("internal/strconv.uint64pow10", laid_internal_strconv_uint64pow10), ("unicode/utf8.acceptRanges", laid_unicode_utf8_acceptRanges), ("cicerone/event.kindNames", laid_cicerone_event_kindNames), ("unicode/utf8.first", laid_unicode_utf8_first)] }
def EventMaySaid : Prop := eventMayRow.holds Tryd.pinned (OpenSpec.ofChange eventMaySpec)

/-- ITS FALSE NEIGHBOUR: 'it returns false'. Refute it at one input. -/
def eventMayWrong : ChangeSpec := { name := "eventMay", fn := fun _ => fun
  | [d1, d2] => { results := [.lit (.bool false)], args := [d1, d2] }
  | _ => none }
def EventMayWrongFalsely : Prop := eventMayRow.holds Tryd.pinned (OpenSpec.ofChange eventMayWrong)

/-- 'ciceronelaw02.EventFormats': WHATEVER THE INPUT: true; the input reads as it did. -/
def eventFormatsSpec : ChangeSpec := { name := "eventFormats", fn := fun _ => fun
  | [d] => { results := [.lit (.bool true)], args := [d] }
  | _ => none }
def eventFormatsRow : OpenClaim := { program := "ytihdeidaekheoaadoor", sum := "9205fa0821e20e5dcc32c5f9f4b088ce846a8403f9fd146839d8c22a7aae2898", func := "cicerone/ciceronelaw02.EventFormats", spec := "eventFormats", inPlace := ["internal/bytealg.IndexByteString", "internal/bytealg.IndexString", "internal/bytealg.CountString", "internal/abi.NoEscape", "internal/bytealg.MakeNoZero"], unfollowed := true, recurses := true, named := ["internal/bytealg.MaxLen", "unicode/utf8.first", "unicode/utf8.acceptRanges", "cicerone/event.kindNames", "internal/strconv.uint64pow10", "math/bits.deBruijn32tab", "math/bits.deBruijn64tab"], apart := false, laid := [("math/bits.deBruijn32tab", laid_math_bits_deBruijn32tab), ("math/bits.deBruijn64tab", laid_math_bits_deBruijn64tab), ("internal/strconv.uint64pow10", laid_internal_strconv_uint64pow10), ("unicode/utf8.acceptRanges", laid_unicode_utf8_acceptRanges), ("cicerone/event.kindNames", laid_cicerone_event_kindNames), ("unicode/utf8.first", laid_unicode_utf8_first)] }
def EventFormatsSaid : Prop := eventFormatsRow.holds Tryd.pinned (OpenSpec.ofChange eventFormatsSpec)

/-- ITS FALSE NEIGHBOUR: 'it returns false'. Refute it at one input. -/
def eventFormatsWrong : ChangeSpec := { name := "eventFormats", fn := fun _ => fun
  | [d] => { results := [.lit (.bool false)], args := [d] }
  | _ => none }
def EventFormatsWrongFalsely : Prop := eventFormatsRow.holds Tryd.pinned (OpenSpec.ofChange eventFormatsWrong)

/-- 'ciceronelaw02.EventParses': WHATEVER THE INPUT: true; the input reads as it did. -/
def eventParsesSpec : ChangeSpec := { name := "eventParses", fn := fun _ => fun
  | [d] => { results := [.lit (.bool true)], args := [d] }
  | _ => none }
def eventParsesRow : OpenClaim := { program := "ytihdeidaekheoaadoor", sum := "9205fa0821e20e5dcc32c5f9f4b088ce846a8403f9fd146839d8c22a7aae2898", func := "cicerone/ciceronelaw02.EventParses", spec := "eventParses", inPlace := ["internal/bytealg.IndexByteString", "internal/bytealg.IndexString", "internal/bytealg.CountString", "internal/abi.NoEscape", "internal/bytealg.MakeNoZero"], unfollowed := true, recurses := true, named := ["internal/bytealg.MaxLen", "unicode/utf8.first", "unicode/utf8.acceptRanges", "cicerone/event.kindNames", "internal/strconv.uint64pow10", "math/bits.deBruijn32tab", "math/bits.deBruijn64tab"], apart := false, laid := [("math/bits.deBruijn32tab", laid_math_bits_deBruijn32tab), ("math/bits.deBruijn64tab", laid_math_bits_deBruijn64tab), ("internal/strconv.uint64pow10", laid_internal_strconv_uint64pow10), ("unicode/utf8.acceptRanges", laid_unicode_utf8_acceptRanges), ("cicerone/event.kindNames", laid_cicerone_event_kindNames), ("unicode/utf8.first", laid_unicode_utf8_first)] }
def EventParsesSaid : Prop := eventParsesRow.holds Tryd.pinned (OpenSpec.ofChange eventParsesSpec)

/-- ITS FALSE NEIGHBOUR: 'it returns false'. Refute it at one input. -/
def eventParsesWrong : ChangeSpec := { name := "eventParses", fn := fun _ => fun
  | [d] => { results := [.lit (.bool false)], args := [d] }
  | _ => none }
def EventParsesWrongFalsely : Prop := eventParsesRow.holds Tryd.pinned (OpenSpec.ofChange eventParsesWrong)

/-- 'ciceronelaw02.EventCompares': WHATEVER THE INPUT: true; the input reads as it did. -/
def eventComparesSpec : ChangeSpec := { name := "eventCompares", fn := fun _ => fun
  | [d1, d2, d3] => { results := [.lit (.bool true)], args := [d1, d2, d3] }
  | _ => none }
def eventComparesRow : OpenClaim := { program := "ytihdeidaekheoaadoor", sum := "9205fa0821e20e5dcc32c5f9f4b088ce846a8403f9fd146839d8c22a7aae2898", func := "cicerone/ciceronelaw02.EventCompares", spec := "eventCompares", inPlace := ["internal/bytealg.IndexByteString", "internal/bytealg.IndexString", "internal/bytealg.CountString", "internal/abi.NoEscape", "internal/bytealg.MakeNoZero", "internal/bytealg.abigen_runtime_cmpstring"], named := ["internal/bytealg.MaxLen", "unicode/utf8.first", "unicode/utf8.acceptRanges", "cicerone/event.kindNames", "internal/strconv.uint64pow10", "math/bits.deBruijn32tab", "math/bits.deBruijn64tab"], apart := false, laid := [("math/bits.deBruijn32tab", laid_math_bits_deBruijn32tab), ("math/bits.deBruijn64tab", laid_math_bits_deBruijn64tab), ("internal/strconv.uint64pow10", laid_internal_strconv_uint64pow10), ("unicode/utf8.acceptRanges", laid_unicode_utf8_acceptRanges), ("cicerone/event.kindNames", laid_cicerone_event_kindNames), ("unicode/utf8.first", laid_unicode_utf8_first)] }
def EventComparesSaid : Prop := eventComparesRow.holds Tryd.pinned (OpenSpec.ofChange eventComparesSpec)

/-- ITS FALSE NEIGHBOUR: 'it returns false'. Refute it at one input. -/
def eventComparesWrong : ChangeSpec := { name := "eventCompares", fn := fun _ => fun
  | [d1, d2, d3] => { results := [.lit (.bool false)], args := [d1, d2, d3] }
  | _ => none }
def EventComparesWrongFalsely : Prop := eventComparesRow.holds Tryd.pinned (OpenSpec.ofChange eventComparesWrong)

/-- 'ciceronelaw02.EventBytes': WHATEVER THE INPUT: true; the input reads as it did. -/
def eventBytesSpec : ChangeSpec := { name := "eventBytes", fn := fun _ => fun
  | [d1, d2, d3] => { results := [.lit (.bool true)], args := [d1, d2, d3] }
  | _ => none }
def eventBytesRow : OpenClaim := { program := "ytihdeidaekheoaadoor", sum := "9205fa0821e20e5dcc32c5f9f4b088ce846a8403f9fd146839d8c22a7aae2898", func := "cicerone/ciceronelaw02.EventBytes", spec := "eventBytes", inPlace := ["internal/bytealg.IndexByteString", "internal/bytealg.IndexString", "internal/bytealg.CountString", "internal/abi.NoEscape", "internal/bytealg.MakeNoZero"], named := ["internal/bytealg.MaxLen", "unicode/utf8.first", "unicode/utf8.acceptRanges", "cicerone/event.kindNames", "internal/strconv.uint64pow10", "math/bits.deBruijn32tab", "math/bits.deBruijn64tab"], apart := false, laid := [("math/bits.deBruijn32tab", laid_math_bits_deBruijn32tab), ("math/bits.deBruijn64tab", laid_math_bits_deBruijn64tab), ("internal/strconv.uint64pow10", laid_internal_strconv_uint64pow10), ("unicode/utf8.acceptRanges", laid_unicode_utf8_acceptRanges), ("cicerone/event.kindNames", laid_cicerone_event_kindNames), ("unicode/utf8.first", laid_unicode_utf8_first)] }
def EventBytesSaid : Prop := eventBytesRow.holds Tryd.pinned (OpenSpec.ofChange eventBytesSpec)

/-- ITS FALSE NEIGHBOUR: 'it returns false'. Refute it at one input. -/
def eventBytesWrong : ChangeSpec := { name := "eventBytes", fn := fun _ => fun
  | [d1, d2, d3] => { results := [.lit (.bool false)], args := [d1, d2, d3] }
  | _ => none }
def EventBytesWrongFalsely : Prop := eventBytesRow.holds Tryd.pinned (OpenSpec.ofChange eventBytesWrong)

/-- 'ciceronelaw02.EventDecodes': WHATEVER THE INPUT: true; the input reads as it did. -/
def eventDecodesSpec : ChangeSpec := { name := "eventDecodes", fn := fun _ => fun
  | [d] => { results := [.lit (.bool true)], args := [d] }
  | _ => none }
def eventDecodesRow : OpenClaim := { program := "ytihdeidaekheoaadoor", sum := "9205fa0821e20e5dcc32c5f9f4b088ce846a8403f9fd146839d8c22a7aae2898", func := "cicerone/ciceronelaw02.EventDecodes", spec := "eventDecodes", inPlace := ["internal/bytealg.IndexByteString", "internal/bytealg.IndexString", "internal/bytealg.CountString", "internal/abi.NoEscape", "internal/bytealg.MakeNoZero"], named := ["internal/bytealg.MaxLen", "unicode/utf8.first", "unicode/utf8.acceptRanges", "cicerone/event.kindNames", "internal/strconv.uint64pow10", "math/bits.deBruijn32tab", "math/bits.deBruijn64tab"], apart := false, laid := [("math/bits.deBruijn32tab", laid_math_bits_deBruijn32tab), ("math/bits.deBruijn64tab", laid_math_bits_deBruijn64tab), ("internal/strconv.uint64pow10", laid_internal_strconv_uint64pow10), ("unicode/utf8.acceptRanges", laid_unicode_utf8_acceptRanges), ("cicerone/event.kindNames", laid_cicerone_event_kindNames), ("unicode/utf8.first", laid_unicode_utf8_first)] }
def EventDecodesSaid : Prop := eventDecodesRow.holds Tryd.pinned (OpenSpec.ofChange eventDecodesSpec)

/-- ITS FALSE NEIGHBOUR: 'it returns false'. Refute it at one input. -/
def eventDecodesWrong : ChangeSpec := { name := "eventDecodes", fn := fun _ => fun
  | [d] => { results := [.lit (.bool false)], args := [d] }
  | _ => none }
def EventDecodesWrongFalsely : Prop := eventDecodesRow.holds Tryd.pinned (OpenSpec.ofChange eventDecodesWrong)

/-- 'ciceronelaw02.EventRows': WHATEVER THE INPUT: true; the input reads as it did. -/
def eventRowsSpec : ChangeSpec := { name := "eventRows", fn := fun _ => fun
  | [d] => { results := [.lit (.bool true)], args := [d] }
  | _ => none }
def eventRowsRow : OpenClaim := { program := "ytihdeidaekheoaadoor", sum := "9205fa0821e20e5dcc32c5f9f4b088ce846a8403f9fd146839d8c22a7aae2898", func := "cicerone/ciceronelaw02.EventRows", spec := "eventRows", inPlace := ["internal/bytealg.IndexByteString", "internal/bytealg.IndexString", "internal/bytealg.CountString", "internal/abi.NoEscape", "internal/bytealg.MakeNoZero"], named := ["internal/bytealg.MaxLen", "unicode/utf8.first", "unicode/utf8.acceptRanges", "cicerone/event.kindNames", "internal/strconv.uint64pow10", "math/bits.deBruijn32tab", "math/bits.deBruijn64tab"], apart := false, laid := [("math/bits.deBruijn32tab", laid_math_bits_deBruijn32tab), ("math/bits.deBruijn64tab", laid_math_bits_deBruijn64tab), ("internal/strconv.uint64pow10", laid_internal_strconv_uint64pow10), ("unicode/utf8.acceptRanges", laid_unicode_utf8_acceptRanges), ("cicerone/event.kindNames", laid_cicerone_event_kindNames), ("unicode/utf8.first", laid_unicode_utf8_first)] }
def EventRowsSaid : Prop := eventRowsRow.holds Tryd.pinned (OpenSpec.ofChange eventRowsSpec)

/-- ITS FALSE NEIGHBOUR: 'it returns false'. Refute it at one input. -/
def eventRowsWrong : ChangeSpec := { name := "eventRows", fn := fun _ => fun
  | [d] => { results := [.lit (.bool false)], args := [d] }
  | _ => none }
def EventRowsWrongFalsely : Prop := eventRowsRow.holds Tryd.pinned (OpenSpec.ofChange eventRowsWrong)

/-- 'ciceronelaw02.EventSorts': WHATEVER THE INPUT: true; the input reads as it did. -/
def eventSortsSpec : ChangeSpec := { name := "eventSorts", fn := fun _ => fun
  | [d] => { results := [.lit (.bool true)], args := [d] }
  | _ => none }
def eventSortsRow : OpenClaim := { program := "ytihdeidaekheoaadoor", sum := "9205fa0821e20e5dcc32c5f9f4b088ce846a8403f9fd146839d8c22a7aae2898", func := "cicerone/ciceronelaw02.EventSorts", spec := "eventSorts", inPlace := ["internal/bytealg.IndexByteString", "internal/bytealg.IndexString", "internal/bytealg.CountString", "internal/abi.NoEscape", "internal/bytealg.MakeNoZero", "internal/bytealg.abigen_runtime_cmpstring"], unfollowed := true, recurses := true, named := ["internal/bytealg.MaxLen", "unicode/utf8.first", "unicode/utf8.acceptRanges", "cicerone/event.kindNames", "internal/strconv.uint64pow10", "math/bits.deBruijn32tab", "math/bits.deBruijn64tab"], apart := false, laid := [("math/bits.deBruijn32tab", laid_math_bits_deBruijn32tab), ("math/bits.deBruijn64tab", laid_math_bits_deBruijn64tab), ("internal/strconv.uint64pow10", laid_internal_strconv_uint64pow10), ("unicode/utf8.acceptRanges", laid_unicode_utf8_acceptRanges), ("cicerone/event.kindNames", laid_cicerone_event_kindNames), ("unicode/utf8.first", laid_unicode_utf8_first)] }
def EventSortsSaid : Prop := eventSortsRow.holds Tryd.pinned (OpenSpec.ofChange eventSortsSpec)

/-- ITS FALSE NEIGHBOUR: 'it returns false'. Refute it at one input. -/
def eventSortsWrong : ChangeSpec := { name := "eventSorts", fn := fun _ => fun
  | [d] => { results := [.lit (.bool false)], args := [d] }
  | _ => none }
def EventSortsWrongFalsely : Prop := eventSortsRow.holds Tryd.pinned (OpenSpec.ofChange eventSortsWrong)

/- THE SECOND FORM. 'bulk': how many values and letters a reading holds, each counted each time it is reached (what is shared counts as often as it is met; a slice's spare places count too). A statement '..UptoSaid' is the law's where the arguments, and the package variables that the reading takes, are together of bulk at most 1048576: NARROWER than '..Said'. Prove '..Said' where nothing that the law and all that it calls make is longer than what came in: it says more and counts as full. Else prove '..UptoSaid'. A law counts once. -/
mutual
def uptoBulk {H : Type} : DataW H → Nat
  | .lit (.string bytes) => bytes.length + 1
  | .lit _ => 1
  | .nil => 1
  | .ptr d => uptoBulk d + 1
  | .slice elems spare => uptoBulkAll elems + uptoBulkAll spare + 1
  | .agg parts => uptoBulkAll parts + 1
  | .iface _ d => uptoBulk d + 1
  | .map entries => uptoBulkEntries entries + 1
  | .held _ => 1
def uptoBulkAll {H : Type} : List (DataW H) → Nat
  | [] => 0
  | d :: r => uptoBulk d + uptoBulkAll r
def uptoBulkEntries {H : Type} : List (Lit × DataW H) → Nat
  | [] => 0
  | x :: r => uptoBulkEntry x + uptoBulkEntries r
def uptoBulkEntry {H : Type} : Lit × DataW H → Nat
  | (.string bytes, d) => bytes.length + uptoBulk d + 1
  | (_, d) => uptoBulk d + 1
 end
def uptoSmall : (H : Type) → List (DataW H) → Bool := fun _ ds => decide (uptoBulkAll ds ≤ 1048576)
def OpenSpec.upto (s : _root_.Go.ChangeSpec) : _root_.Go.OpenSpec := { _root_.Go.OpenSpec.ofChange s with cond := some uptoSmall }

/-- 'ciceronelaw02.EventUnlike', WHERE WHAT IT READS IS OF BULK AT MOST 1048576: true; the input reads as it did. -/
def eventUnlikeUptoRow : OpenClaim := { program := "ytihdeidaekheoaadoor", sum := "9205fa0821e20e5dcc32c5f9f4b088ce846a8403f9fd146839d8c22a7aae2898", func := "cicerone/ciceronelaw02.EventUnlike", spec := "eventUnlike", inPlace := ["internal/bytealg.IndexByteString", "internal/bytealg.IndexString", "internal/bytealg.CountString", "internal/abi.NoEscape", "internal/bytealg.MakeNoZero"], named := ["internal/bytealg.MaxLen", "unicode/utf8.first", "unicode/utf8.acceptRanges", "cicerone/event.kindNames", "internal/strconv.uint64pow10", "math/bits.deBruijn32tab", "math/bits.deBruijn64tab"], apart := false, laid := [("math/bits.deBruijn32tab", laid_math_bits_deBruijn32tab), ("math/bits.deBruijn64tab", laid_math_bits_deBruijn64tab), ("internal/strconv.uint64pow10", laid_internal_strconv_uint64pow10), ("unicode/utf8.acceptRanges", laid_unicode_utf8_acceptRanges), ("cicerone/event.kindNames", laid_cicerone_event_kindNames), ("unicode/utf8.first", laid_unicode_utf8_first)], narrowed := true }
def EventUnlikeUptoSaid : Prop := eventUnlikeUptoRow.holds Tryd.pinned (OpenSpec.upto eventUnlikeSpec)

/-- 'ciceronelaw02.EventMay', WHERE WHAT IT READS IS OF BULK AT MOST 1048576: true; the input reads as it did. -/
def eventMayUptoRow : OpenClaim := { program := "ytihdeidaekheoaadoor", sum := "9205fa0821e20e5dcc32c5f9f4b088ce846a8403f9fd146839d8c22a7aae2898", func := "cicerone/ciceronelaw02.EventMay", spec := "eventMay", inPlace := ["internal/bytealg.IndexByteString", "internal/bytealg.IndexString", "internal/bytealg.CountString", "internal/abi.NoEscape", "internal/bytealg.MakeNoZero"], named := ["internal/bytealg.MaxLen", "unicode/utf8.first", "unicode/utf8.acceptRanges", "cicerone/event.kindNames", "internal/strconv.uint64pow10", "math/bits.deBruijn32tab", "math/bits.deBruijn64tab"], apart := false, laid := [("math/bits.deBruijn32tab", laid_math_bits_deBruijn32tab), ("math/bits.deBruijn64tab", laid_math_bits_deBruijn64tab), ("internal/strconv.uint64pow10", laid_internal_strconv_uint64pow10), ("unicode/utf8.acceptRanges", laid_unicode_utf8_acceptRanges), ("cicerone/event.kindNames", laid_cicerone_event_kindNames), ("unicode/utf8.first", laid_unicode_utf8_first)], narrowed := true }
def EventMayUptoSaid : Prop := eventMayUptoRow.holds Tryd.pinned (OpenSpec.upto eventMaySpec)

/-- 'ciceronelaw02.EventFormats', WHERE WHAT IT READS IS OF BULK AT MOST 1048576: true; the input reads as it did. -/
def eventFormatsUptoRow : OpenClaim := { program := "ytihdeidaekheoaadoor", sum := "9205fa0821e20e5dcc32c5f9f4b088ce846a8403f9fd146839d8c22a7aae2898", func := "cicerone/ciceronelaw02.EventFormats", spec := "eventFormats", inPlace := ["internal/bytealg.IndexByteString", "internal/bytealg.IndexString", "internal/bytealg.CountString", "internal/abi.NoEscape", "internal/bytealg.MakeNoZero"], unfollowed := true, recurses := true, named := ["internal/bytealg.MaxLen", "unicode/utf8.first", "unicode/utf8.acceptRanges", "cicerone/event.kindNames", "internal/strconv.uint64pow10", "math/bits.deBruijn32tab", "math/bits.deBruijn64tab"], apart := false, laid := [("math/bits.deBruijn32tab", laid_math_bits_deBruijn32tab), ("math/bits.deBruijn64tab", laid_math_bits_deBruijn64tab), ("internal/strconv.uint64pow10", laid_internal_strconv_uint64pow10), ("unicode/utf8.acceptRanges", laid_unicode_utf8_acceptRanges), ("cicerone/event.kindNames", laid_cicerone_event_kindNames), ("unicode/utf8.first", laid_unicode_utf8_first)], narrowed := true }
def EventFormatsUptoSaid : Prop := eventFormatsUptoRow.holds Tryd.pinned (OpenSpec.upto eventFormatsSpec)

/-- 'ciceronelaw02.EventParses', WHERE WHAT IT READS IS OF BULK AT MOST 1048576: true; the input reads as it did. -/
def eventParsesUptoRow : OpenClaim := { program := "ytihdeidaekheoaadoor", sum := "9205fa0821e20e5dcc32c5f9f4b088ce846a8403f9fd146839d8c22a7aae2898", func := "cicerone/ciceronelaw02.EventParses", spec := "eventParses", inPlace := ["internal/bytealg.IndexByteString", "internal/bytealg.IndexString", "internal/bytealg.CountString", "internal/abi.NoEscape", "internal/bytealg.MakeNoZero"], unfollowed := true, recurses := true, named := ["internal/bytealg.MaxLen", "unicode/utf8.first", "unicode/utf8.acceptRanges", "cicerone/event.kindNames", "internal/strconv.uint64pow10", "math/bits.deBruijn32tab", "math/bits.deBruijn64tab"], apart := false, laid := [("math/bits.deBruijn32tab", laid_math_bits_deBruijn32tab), ("math/bits.deBruijn64tab", laid_math_bits_deBruijn64tab), ("internal/strconv.uint64pow10", laid_internal_strconv_uint64pow10), ("unicode/utf8.acceptRanges", laid_unicode_utf8_acceptRanges), ("cicerone/event.kindNames", laid_cicerone_event_kindNames), ("unicode/utf8.first", laid_unicode_utf8_first)], narrowed := true }
def EventParsesUptoSaid : Prop := eventParsesUptoRow.holds Tryd.pinned (OpenSpec.upto eventParsesSpec)

/-- 'ciceronelaw02.EventCompares', WHERE WHAT IT READS IS OF BULK AT MOST 1048576: true; the input reads as it did. -/
def eventComparesUptoRow : OpenClaim := { program := "ytihdeidaekheoaadoor", sum := "9205fa0821e20e5dcc32c5f9f4b088ce846a8403f9fd146839d8c22a7aae2898", func := "cicerone/ciceronelaw02.EventCompares", spec := "eventCompares", inPlace := ["internal/bytealg.IndexByteString", "internal/bytealg.IndexString", "internal/bytealg.CountString", "internal/abi.NoEscape", "internal/bytealg.MakeNoZero", "internal/bytealg.abigen_runtime_cmpstring"], named := ["internal/bytealg.MaxLen", "unicode/utf8.first", "unicode/utf8.acceptRanges", "cicerone/event.kindNames", "internal/strconv.uint64pow10", "math/bits.deBruijn32tab", "math/bits.deBruijn64tab"], apart := false, laid := [("math/bits.deBruijn32tab", laid_math_bits_deBruijn32tab), ("math/bits.deBruijn64tab", laid_math_bits_deBruijn64tab), ("internal/strconv.uint64pow10", laid_internal_strconv_uint64pow10), ("unicode/utf8.acceptRanges", laid_unicode_utf8_acceptRanges), ("cicerone/event.kindNames", laid_cicerone_event_kindNames), ("unicode/utf8.first", laid_unicode_utf8_first)], narrowed := true }
def EventComparesUptoSaid : Prop := eventComparesUptoRow.holds Tryd.pinned (OpenSpec.upto eventComparesSpec)

/-- 'ciceronelaw02.EventBytes', WHERE WHAT IT READS IS OF BULK AT MOST 1048576: true; the input reads as it did. -/
def eventBytesUptoRow : OpenClaim := { program := "ytihdeidaekheoaadoor", sum := "9205fa0821e20e5dcc32c5f9f4b088ce846a8403f9fd146839d8c22a7aae2898", func := "cicerone/ciceronelaw02.EventBytes", spec := "eventBytes", inPlace := ["internal/bytealg.IndexByteString", "internal/bytealg.IndexString", "internal/bytealg.CountString", "internal/abi.NoEscape", "internal/bytealg.MakeNoZero"], named := ["internal/bytealg.MaxLen", "unicode/utf8.first", "unicode/utf8.acceptRanges", "cicerone/event.kindNames", "internal/strconv.uint64pow10", "math/bits.deBruijn32tab", "math/bits.deBruijn64tab"], apart := false, laid := [("math/bits.deBruijn32tab", laid_math_bits_deBruijn32tab), ("math/bits.deBruijn64tab", laid_math_bits_deBruijn64tab), ("internal/strconv.uint64pow10", laid_internal_strconv_uint64pow10), ("unicode/utf8.acceptRanges", laid_unicode_utf8_acceptRanges), ("cicerone/event.kindNames", laid_cicerone_event_kindNames), ("unicode/utf8.first", laid_unicode_utf8_first)], narrowed := true }
def EventBytesUptoSaid : Prop := eventBytesUptoRow.holds Tryd.pinned (OpenSpec.upto eventBytesSpec)

/-- 'ciceronelaw02.EventDecodes', WHERE WHAT IT READS IS OF BULK AT MOST 1048576: true; the input reads as it did. -/
def eventDecodesUptoRow : OpenClaim := { program := "ytihdeidaekheoaadoor", sum := "9205fa0821e20e5dcc32c5f9f4b088ce846a8403f9fd146839d8c22a7aae2898", func := "cicerone/ciceronelaw02.EventDecodes", spec := "eventDecodes", inPlace := ["internal/bytealg.IndexByteString", "internal/bytealg.IndexString", "internal/bytealg.CountString", "internal/abi.NoEscape", "internal/bytealg.MakeNoZero"], named := ["internal/bytealg.MaxLen", "unicode/utf8.first", "unicode/utf8.acceptRanges", "cicerone/event.kindNames", "internal/strconv.uint64pow10", "math/bits.deBruijn32tab", "math/bits.deBruijn64tab"], apart := false, laid := [("math/bits.deBruijn32tab", laid_math_bits_deBruijn32tab), ("math/bits.deBruijn64tab", laid_math_bits_deBruijn64tab), ("internal/strconv.uint64pow10", laid_internal_strconv_uint64pow10), ("unicode/utf8.acceptRanges", laid_unicode_utf8_acceptRanges), ("cicerone/event.kindNames", laid_cicerone_event_kindNames), ("unicode/utf8.first", laid_unicode_utf8_first)], narrowed := true }
def EventDecodesUptoSaid : Prop := eventDecodesUptoRow.holds Tryd.pinned (OpenSpec.upto eventDecodesSpec)

/-- 'ciceronelaw02.EventRows', WHERE WHAT IT READS IS OF BULK AT MOST 1048576: true; the input reads as it did. -/
def eventRowsUptoRow : OpenClaim := { program := "ytihdeidaekheoaadoor", sum := "9205fa0821e20e5dcc32c5f9f4b088ce846a8403f9fd146839d8c22a7aae2898", func := "cicerone/ciceronelaw02.EventRows", spec := "eventRows", inPlace := ["internal/bytealg.IndexByteString", "internal/bytealg.IndexString", "internal/bytealg.CountString", "internal/abi.NoEscape", "internal/bytealg.MakeNoZero"], named := ["internal/bytealg.MaxLen", "unicode/utf8.first", "unicode/utf8.acceptRanges", "cicerone/event.kindNames", "internal/strconv.uint64pow10", "math/bits.deBruijn32tab", "math/bits.deBruijn64tab"], apart := false, laid := [("math/bits.deBruijn32tab", laid_math_bits_deBruijn32tab), ("math/bits.deBruijn64tab", laid_math_bits_deBruijn64tab), ("internal/strconv.uint64pow10", laid_internal_strconv_uint64pow10), ("unicode/utf8.acceptRanges", laid_unicode_utf8_acceptRanges), ("cicerone/event.kindNames", laid_cicerone_event_kindNames), ("unicode/utf8.first", laid_unicode_utf8_first)], narrowed := true }
def EventRowsUptoSaid : Prop := eventRowsUptoRow.holds Tryd.pinned (OpenSpec.upto eventRowsSpec)

/-- 'ciceronelaw02.EventSorts', WHERE WHAT IT READS IS OF BULK AT MOST 1048576: true; the input reads as it did. -/
def eventSortsUptoRow : OpenClaim := { program := "ytihdeidaekheoaadoor", sum := "9205fa0821e20e5dcc32c5f9f4b088ce846a8403f9fd146839d8c22a7aae2898", func := "cicerone/ciceronelaw02.EventSorts", spec := "eventSorts", inPlace := ["internal/bytealg.IndexByteString", "internal/bytealg.IndexString", "internal/bytealg.CountString", "internal/abi.NoEscape", "internal/bytealg.MakeNoZero", "internal/bytealg.abigen_runtime_cmpstring"], unfollowed := true, recurses := true, named := ["internal/bytealg.MaxLen", "unicode/utf8.first", "unicode/utf8.acceptRanges", "cicerone/event.kindNames", "internal/strconv.uint64pow10", "math/bits.deBruijn32tab", "math/bits.deBruijn64tab"], apart := false, laid := [("math/bits.deBruijn32tab", laid_math_bits_deBruijn32tab), ("math/bits.deBruijn64tab", laid_math_bits_deBruijn64tab), ("internal/strconv.uint64pow10", laid_internal_strconv_uint64pow10), ("unicode/utf8.acceptRanges", laid_unicode_utf8_acceptRanges), ("cicerone/event.kindNames", laid_cicerone_event_kindNames), ("unicode/utf8.first", laid_unicode_utf8_first)], narrowed := true }
def EventSortsUptoSaid : Prop := eventSortsUptoRow.holds Tryd.pinned (OpenSpec.upto eventSortsSpec)

end Rows
end Go.Proofs.YtihdeidaekheoaaDoor
