/-
  NARROWER THAN 'FOR EVERY INPUT', by the rows' own cells (each row's printed sentence says how): EventSorts: laid · ExportBack: laid · ExportImports: laid · ExportAll: laid · ExportMerges: laid · ExportSame: laid · ExportPeople: laid.
  DERIVED. THE GIVEN ROWS OF THIS SEAT. 7 by the template 'for every input the law returns true; each argument reads behind the call as it read before'; 0 by the template 'total and deterministic' (their statements: YtmhkgfoimkonoaaDoorTotals.lean).
  GIVEN WITH THE SEED: the statements are not yours to turn. If you find one false, say at which input.
  Laid BY PROGRAM, IN A SANDBOX (cutbox-rows.mjs): the forced cells as the released guide's own fill.sh prints them over the translation e55101e0b577564e… (all of the seat's roots in one cut). By AI agents, Wed Nov 11 2026. No macro, syntax, notation, axiom, sorry.
-/
import Derived.Test.YtmhkgfoimkonoaaDoorChecked
import GoSem.PinnedTables
import GoSem.Claim
import GoSem.ClaimJoined
import GoSem.ClaimMapViews
import Derived.JoinedTies
import Derived.KernelRfl
namespace Go.Proofs.YtmhkgfoimkonoaaDoor
/- THE CELL 'sum', in the pinned program and in every row, IS THE sha256 OF THE DUMP (.gsa) THAT YtmhkgfoimkonoaaDoorProg.lean LOADS. Nothing in Lean hashes anything: it is a label: what it is worth is what the hold of that sum in a sandbox is worth. -/
noncomputable def Tryd.pinned : Pinned := { name := "ytmhkgfoimkonoaadoor", sum := "e55101e0b577564e4574fc4d2d81ba37a6ca864247b80d32d6657f2b5a0c09da", checked := Tryd.checked }
namespace Rows
def none {H : Type} : Left H := { results := [], args := [] }

/- WHAT THE LISTED PACKAGE-LEVEL VARIABLES READ AS WHEN THE CALL BEGINS. Each datum BY PROGRAM (the guide's laid-datum.mjs) off the statement by which the dump's own 'gosem.cut.vars' lays the variable. In a bare row this is a premise. The card (YtmhkgfoimkonoaaDoorCards.lean) ties it to the program's text. -/
def laid_math_bits_deBruijn32tab {H : Type} : DataW H := .agg [.lit (.int .u8 0), .lit (.int .u8 1), .lit (.int .u8 28), .lit (.int .u8 2), .lit (.int .u8 29), .lit (.int .u8 14), .lit (.int .u8 24), .lit (.int .u8 3), .lit (.int .u8 30), .lit (.int .u8 22), .lit (.int .u8 20), .lit (.int .u8 15), .lit (.int .u8 25), .lit (.int .u8 17), .lit (.int .u8 4), .lit (.int .u8 8), .lit (.int .u8 31), .lit (.int .u8 27), .lit (.int .u8 13), .lit (.int .u8 23), .lit (.int .u8 21), .lit (.int .u8 19), .lit (.int .u8 16), .lit (.int .u8 7), .lit (.int .u8 26), .lit (.int .u8 12), .lit (.int .u8 18), .lit (.int .u8 6), .lit (.int .u8 11), .lit (.int .u8 5), .lit (.int .u8 10), .lit (.int .u8 9)]
def laid_math_bits_deBruijn64tab {H : Type} : DataW H := .agg [.lit (.int .u8 0), .lit (.int .u8 1), .lit (.int .u8 56), .lit (.int .u8 2), .lit (.int .u8 57), .lit (.int .u8 49), .lit (.int .u8 28), .lit (.int .u8 3), .lit (.int .u8 61), .lit (.int .u8 58), .lit (.int .u8 42), .lit (.int .u8 50), .lit (.int .u8 38), .lit (.int .u8 29), .lit (.int .u8 17), .lit (.int .u8 4), .lit (.int .u8 62), .lit (.int .u8 47), .lit (.int .u8 59), .lit (.int .u8 36), .lit (.int .u8 45), .lit (.int .u8 43), .lit (.int .u8 51), .lit (.int .u8 22), .lit (.int .u8 53), .lit (.int .u8 39), .lit (.int .u8 33), .lit (.int .u8 30), .lit (.int .u8 24), .lit (.int .u8 18), .lit (.int .u8 12), .lit (.int .u8 5), .lit (.int .u8 63), .lit (.int .u8 55), .lit (.int .u8 48), .lit (.int .u8 27), .lit (.int .u8 60), .lit (.int .u8 41), .lit (.int .u8 37), .lit (.int .u8 16), .lit (.int .u8 46), .lit (.int .u8 35), .lit (.int .u8 44), .lit (.int .u8 21), .lit (.int .u8 52), .lit (.int .u8 32), .lit (.int .u8 23), .lit (.int .u8 11), .lit (.int .u8 54), .lit (.int .u8 26), .lit (.int .u8 40), .lit (.int .u8 15), .lit (.int .u8 34), .lit (.int .u8 20), .lit (.int .u8 31), .lit (.int .u8 10), .lit (.int .u8 25), .lit (.int .u8 14), .lit (.int .u8 19), .lit (.int .u8 9), .lit (.int .u8 13), .lit (.int .u8 8), .lit (.int .u8 7), .lit (.int .u8 6)]
def laid_internal_strconv_uint64pow10 {H : Type} : DataW H := .agg [.lit (.int .u64 1), .lit (.int .u64 10), .lit (.int .u64 100), .lit (.int .u64 1000), .lit (.int .u64 10000), .lit (.int .u64 100000), .lit (.int .u64 1000000), .lit (.int .u64 10000000), .lit (.int .u64 100000000), .lit (.int .u64 1000000000), .lit (.int .u64 10000000000), .lit (.int .u64 100000000000), .lit (.int .u64 1000000000000), .lit (.int .u64 10000000000000), .lit (.int .u64 100000000000000), .lit (.int .u64 1000000000000000), .lit (.int .u64 10000000000000000), .lit (.int .u64 100000000000000000), .lit (.int .u64 1000000000000000000), .lit (.int .u64 10000000000000000000)]
def laid_unicode_utf8_acceptRanges {H : Type} : DataW H := .agg [.agg [.lit (.int .u8 128), .lit (.int .u8 191)], .agg [.lit (.int .u8 160), .lit (.int .u8 191)], .agg [.lit (.int .u8 128), .lit (.int .u8 159)], .agg [.lit (.int .u8 144), .lit (.int .u8 191)], .agg [.lit (.int .u8 128), .lit (.int .u8 143)], .agg [.lit (.int .u8 0), .lit (.int .u8 0)], .agg [.lit (.int .u8 0), .lit (.int .u8 0)], .agg [.lit (.int .u8 0), .lit (.int .u8 0)], .agg [.lit (.int .u8 0), .lit (.int .u8 0)], .agg [.lit (.int .u8 0), .lit (.int .u8 0)], .agg [.lit (.int .u8 0), .lit (.int .u8 0)], .agg [.lit (.int .u8 0), .lit (.int .u8 0)], .agg [.lit (.int .u8 0), .lit (.int .u8 0)], .agg [.lit (.int .u8 0), .lit (.int .u8 0)], .agg [.lit (.int .u8 0), .lit (.int .u8 0)], .agg [.lit (.int .u8 0), .lit (.int .u8 0)]]
def laid_cicerone_event_kindNames {H : Type} : DataW H := .agg [.lit (.string [115, 101, 101, 110]), .lit (.string [111, 112, 101, 110, 101, 100]), .lit (.string [102, 105, 110, 105, 115, 104, 101, 100]), .lit (.string [98, 111, 117, 103, 104, 116]), .lit (.string [114, 97, 116, 101, 100]), .lit (.string [104, 105, 100, 100, 101, 110]), .lit (.string [117, 110, 104, 105, 100, 100, 101, 110]), .lit (.string [102, 111, 108, 108, 111, 119, 101, 100]), .lit (.string [117, 110, 102, 111, 108, 108, 111, 119, 101, 100]), .lit (.string [109, 117, 116, 101, 100]), .lit (.string [117, 110, 109, 117, 116, 101, 100]), .lit (.string [108, 105, 115, 116, 101, 100]), .lit (.string [115, 116, 111, 99, 107, 101, 100]), .lit (.string [100, 101, 108, 105, 115, 116, 101, 100]), .lit (.string [102, 111, 114, 103, 111, 116, 116, 101, 110])]
/-- One of Go's own tables, pinned by name: the form's constant. -/
def laid_unicode_utf8_first : DataW Unit := Go.Pinned.utf8First

/-- 'ciceronelaw02.EventSorts': WHATEVER THE INPUT: true; the input reads as it did. -/
def eventSortsSpec : ChangeSpec := { name := "eventSorts", fn := fun _ => fun
  | [d] => { results := [.lit (.bool true)], args := [d] }
  | _ => none }
def eventSortsRow : OpenClaim := { program := "ytmhkgfoimkonoaadoor", sum := "e55101e0b577564e4574fc4d2d81ba37a6ca864247b80d32d6657f2b5a0c09da", func := "cicerone/ciceronelaw02.EventSorts", spec := "eventSorts", inPlace := ["internal/bytealg.IndexByteString", "internal/bytealg.IndexString", "internal/bytealg.CountString", "internal/abi.NoEscape", "internal/bytealg.MakeNoZero", "internal/bytealg.abigen_runtime_cmpstring"], unfollowed := true, recurses := true, named := ["internal/bytealg.MaxLen", "unicode/utf8.first", "unicode/utf8.acceptRanges", "cicerone/event.kindNames", "internal/strconv.uint64pow10", "math/bits.deBruijn32tab", "math/bits.deBruijn64tab"], plainKeys := false, apart := false, laid := [("math/bits.deBruijn32tab", laid_math_bits_deBruijn32tab), ("math/bits.deBruijn64tab", laid_math_bits_deBruijn64tab), ("internal/strconv.uint64pow10", laid_internal_strconv_uint64pow10), ("unicode/utf8.acceptRanges", laid_unicode_utf8_acceptRanges), ("cicerone/event.kindNames", laid_cicerone_event_kindNames), ("unicode/utf8.first", laid_unicode_utf8_first)] }
def EventSortsSaid : Prop := eventSortsRow.holds Tryd.pinned (OpenSpec.ofChange eventSortsSpec)

/-- ITS FALSE NEIGHBOUR: 'it returns false'. Refute it at one input. -/
def eventSortsWrong : ChangeSpec := { name := "eventSorts", fn := fun _ => fun
  | [d] => { results := [.lit (.bool false)], args := [d] }
  | _ => none }
def EventSortsWrongFalsely : Prop := eventSortsRow.holds Tryd.pinned (OpenSpec.ofChange eventSortsWrong)

/-- 'ciceronelaw42.ExportBack': WHATEVER THE INPUT: true; the input reads as it did. -/
def exportBackSpec : ChangeSpec := { name := "exportBack", fn := fun _ => fun
  | [d] => { results := [.lit (.bool true)], args := [d] }
  | _ => none }
def exportBackRow : OpenClaim := { program := "ytmhkgfoimkonoaadoor", sum := "e55101e0b577564e4574fc4d2d81ba37a6ca864247b80d32d6657f2b5a0c09da", func := "cicerone/ciceronelaw42.ExportBack", spec := "exportBack", inPlace := ["internal/bytealg.IndexByteString", "internal/bytealg.IndexString", "internal/bytealg.CountString", "internal/abi.NoEscape", "internal/bytealg.MakeNoZero", "internal/bytealg.abigen_runtime_cmpstring"], unfollowed := true, recurses := true, named := ["internal/bytealg.MaxLen", "cicerone/event.kindNames", "unicode/utf8.first", "unicode/utf8.acceptRanges", "internal/strconv.uint64pow10", "math/bits.deBruijn32tab", "math/bits.deBruijn64tab"], plainKeys := false, apart := false, laid := [("math/bits.deBruijn32tab", laid_math_bits_deBruijn32tab), ("math/bits.deBruijn64tab", laid_math_bits_deBruijn64tab), ("internal/strconv.uint64pow10", laid_internal_strconv_uint64pow10), ("unicode/utf8.acceptRanges", laid_unicode_utf8_acceptRanges), ("cicerone/event.kindNames", laid_cicerone_event_kindNames), ("unicode/utf8.first", laid_unicode_utf8_first)] }
def ExportBackSaid : Prop := exportBackRow.holds Tryd.pinned (OpenSpec.ofChange exportBackSpec)

/-- ITS FALSE NEIGHBOUR: 'it returns false'. Refute it at one input. -/
def exportBackWrong : ChangeSpec := { name := "exportBack", fn := fun _ => fun
  | [d] => { results := [.lit (.bool false)], args := [d] }
  | _ => none }
def ExportBackWrongFalsely : Prop := exportBackRow.holds Tryd.pinned (OpenSpec.ofChange exportBackWrong)

/-- 'ciceronelaw42.ExportImports': WHATEVER THE INPUT: true; the input reads as it did. -/
def exportImportsSpec : ChangeSpec := { name := "exportImports", fn := fun _ => fun
  | [d] => { results := [.lit (.bool true)], args := [d] }
  | _ => none }
def exportImportsRow : OpenClaim := { program := "ytmhkgfoimkonoaadoor", sum := "e55101e0b577564e4574fc4d2d81ba37a6ca864247b80d32d6657f2b5a0c09da", func := "cicerone/ciceronelaw42.ExportImports", spec := "exportImports", inPlace := ["internal/bytealg.IndexByteString", "internal/bytealg.IndexString", "internal/bytealg.CountString", "internal/abi.NoEscape", "internal/bytealg.MakeNoZero", "internal/bytealg.abigen_runtime_cmpstring"], unfollowed := true, recurses := true, named := ["internal/bytealg.MaxLen", "cicerone/event.kindNames", "unicode/utf8.first", "unicode/utf8.acceptRanges", "internal/strconv.uint64pow10", "math/bits.deBruijn32tab", "math/bits.deBruijn64tab"], plainKeys := false, apart := false, laid := [("math/bits.deBruijn32tab", laid_math_bits_deBruijn32tab), ("math/bits.deBruijn64tab", laid_math_bits_deBruijn64tab), ("internal/strconv.uint64pow10", laid_internal_strconv_uint64pow10), ("unicode/utf8.acceptRanges", laid_unicode_utf8_acceptRanges), ("cicerone/event.kindNames", laid_cicerone_event_kindNames), ("unicode/utf8.first", laid_unicode_utf8_first)] }
def ExportImportsSaid : Prop := exportImportsRow.holds Tryd.pinned (OpenSpec.ofChange exportImportsSpec)

/-- ITS FALSE NEIGHBOUR: 'it returns false'. Refute it at one input. -/
def exportImportsWrong : ChangeSpec := { name := "exportImports", fn := fun _ => fun
  | [d] => { results := [.lit (.bool false)], args := [d] }
  | _ => none }
def ExportImportsWrongFalsely : Prop := exportImportsRow.holds Tryd.pinned (OpenSpec.ofChange exportImportsWrong)

/-- 'ciceronelaw42.ExportAll': WHATEVER THE INPUT: true; the input reads as it did. -/
def exportAllSpec : ChangeSpec := { name := "exportAll", fn := fun _ => fun
  | [d1, d2] => { results := [.lit (.bool true)], args := [d1, d2] }
  | _ => none }
def exportAllRow : OpenClaim := { program := "ytmhkgfoimkonoaadoor", sum := "e55101e0b577564e4574fc4d2d81ba37a6ca864247b80d32d6657f2b5a0c09da", func := "cicerone/ciceronelaw42.ExportAll", spec := "exportAll", inPlace := ["internal/bytealg.IndexByteString", "internal/bytealg.IndexString", "internal/bytealg.CountString", "internal/abi.NoEscape", "internal/bytealg.MakeNoZero", "internal/bytealg.abigen_runtime_cmpstring"], unfollowed := true, recurses := true, named := ["internal/bytealg.MaxLen", "cicerone/event.kindNames", "unicode/utf8.first", "unicode/utf8.acceptRanges", "internal/strconv.uint64pow10", "math/bits.deBruijn32tab", "math/bits.deBruijn64tab"], plainKeys := false, apart := false, laid := [("math/bits.deBruijn32tab", laid_math_bits_deBruijn32tab), ("math/bits.deBruijn64tab", laid_math_bits_deBruijn64tab), ("internal/strconv.uint64pow10", laid_internal_strconv_uint64pow10), ("unicode/utf8.acceptRanges", laid_unicode_utf8_acceptRanges), ("cicerone/event.kindNames", laid_cicerone_event_kindNames), ("unicode/utf8.first", laid_unicode_utf8_first)] }
def ExportAllSaid : Prop := exportAllRow.holds Tryd.pinned (OpenSpec.ofChange exportAllSpec)

/-- ITS FALSE NEIGHBOUR: 'it returns false'. Refute it at one input. -/
def exportAllWrong : ChangeSpec := { name := "exportAll", fn := fun _ => fun
  | [d1, d2] => { results := [.lit (.bool false)], args := [d1, d2] }
  | _ => none }
def ExportAllWrongFalsely : Prop := exportAllRow.holds Tryd.pinned (OpenSpec.ofChange exportAllWrong)

/-- 'ciceronelaw42.ExportMerges': WHATEVER THE INPUT: true; the input reads as it did. -/
def exportMergesSpec : ChangeSpec := { name := "exportMerges", fn := fun _ => fun
  | [d1, d2] => { results := [.lit (.bool true)], args := [d1, d2] }
  | _ => none }
def exportMergesRow : OpenClaim := { program := "ytmhkgfoimkonoaadoor", sum := "e55101e0b577564e4574fc4d2d81ba37a6ca864247b80d32d6657f2b5a0c09da", func := "cicerone/ciceronelaw42.ExportMerges", spec := "exportMerges", inPlace := ["internal/bytealg.IndexByteString", "internal/bytealg.IndexString", "internal/bytealg.CountString", "internal/abi.NoEscape", "internal/bytealg.MakeNoZero", "internal/bytealg.abigen_runtime_cmpstring"], unfollowed := true, recurses := true, named := ["internal/bytealg.MaxLen", "cicerone/event.kindNames", "unicode/utf8.first", "unicode/utf8.acceptRanges", "internal/strconv.uint64pow10", "math/bits.deBruijn32tab", "math/bits.deBruijn64tab"], plainKeys := false, apart := false, laid := [("math/bits.deBruijn32tab", laid_math_bits_deBruijn32tab), ("math/bits.deBruijn64tab", laid_math_bits_deBruijn64tab), ("internal/strconv.uint64pow10", laid_internal_strconv_uint64pow10), ("unicode/utf8.acceptRanges", laid_unicode_utf8_acceptRanges), ("cicerone/event.kindNames", laid_cicerone_event_kindNames), ("unicode/utf8.first", laid_unicode_utf8_first)] }
def ExportMergesSaid : Prop := exportMergesRow.holds Tryd.pinned (OpenSpec.ofChange exportMergesSpec)

/-- ITS FALSE NEIGHBOUR: 'it returns false'. Refute it at one input. -/
def exportMergesWrong : ChangeSpec := { name := "exportMerges", fn := fun _ => fun
  | [d1, d2] => { results := [.lit (.bool false)], args := [d1, d2] }
  | _ => none }
def ExportMergesWrongFalsely : Prop := exportMergesRow.holds Tryd.pinned (OpenSpec.ofChange exportMergesWrong)

/-- 'ciceronelaw42.ExportSame': WHATEVER THE INPUT: true; the input reads as it did. -/
def exportSameSpec : ChangeSpec := { name := "exportSame", fn := fun _ => fun
  | [d1, d2, d3] => { results := [.lit (.bool true)], args := [d1, d2, d3] }
  | _ => none }
def exportSameRow : OpenClaim := { program := "ytmhkgfoimkonoaadoor", sum := "e55101e0b577564e4574fc4d2d81ba37a6ca864247b80d32d6657f2b5a0c09da", func := "cicerone/ciceronelaw42.ExportSame", spec := "exportSame", inPlace := ["internal/bytealg.IndexByteString", "internal/bytealg.IndexString", "internal/bytealg.CountString", "internal/abi.NoEscape", "internal/bytealg.MakeNoZero", "internal/bytealg.abigen_runtime_cmpstring"], unfollowed := true, recurses := true, named := ["internal/bytealg.MaxLen", "cicerone/event.kindNames", "unicode/utf8.first", "unicode/utf8.acceptRanges", "internal/strconv.uint64pow10", "math/bits.deBruijn32tab", "math/bits.deBruijn64tab"], plainKeys := false, apart := false, laid := [("math/bits.deBruijn32tab", laid_math_bits_deBruijn32tab), ("math/bits.deBruijn64tab", laid_math_bits_deBruijn64tab), ("internal/strconv.uint64pow10", laid_internal_strconv_uint64pow10), ("unicode/utf8.acceptRanges", laid_unicode_utf8_acceptRanges), ("cicerone/event.kindNames", laid_cicerone_event_kindNames), ("unicode/utf8.first", laid_unicode_utf8_first)] }
def ExportSameSaid : Prop := exportSameRow.holds Tryd.pinned (OpenSpec.ofChange exportSameSpec)

/-- ITS FALSE NEIGHBOUR: 'it returns false'. Refute it at one input. -/
def exportSameWrong : ChangeSpec := { name := "exportSame", fn := fun _ => fun
  | [d1, d2, d3] => { results := [.lit (.bool false)], args := [d1, d2, d3] }
  | _ => none }
def ExportSameWrongFalsely : Prop := exportSameRow.holds Tryd.pinned (OpenSpec.ofChange exportSameWrong)

/-- 'ciceronelaw42.ExportPeople': WHATEVER THE INPUT: true; the input reads as it did. -/
def exportPeopleSpec : ChangeSpec := { name := "exportPeople", fn := fun _ => fun
  | [d] => { results := [.lit (.bool true)], args := [d] }
  | _ => none }
def exportPeopleRow : OpenClaim := { program := "ytmhkgfoimkonoaadoor", sum := "e55101e0b577564e4574fc4d2d81ba37a6ca864247b80d32d6657f2b5a0c09da", func := "cicerone/ciceronelaw42.ExportPeople", spec := "exportPeople", inPlace := ["internal/bytealg.IndexByteString", "internal/bytealg.IndexString", "internal/bytealg.CountString", "internal/abi.NoEscape", "internal/bytealg.MakeNoZero", "internal/bytealg.abigen_runtime_cmpstring"], unfollowed := true, recurses := true, named := ["internal/bytealg.MaxLen", "cicerone/event.kindNames", "unicode/utf8.first", "unicode/utf8.acceptRanges", "internal/strconv.uint64pow10", "math/bits.deBruijn32tab", "math/bits.deBruijn64tab"], plainKeys := false, apart := false, laid := [("math/bits.deBruijn32tab", laid_math_bits_deBruijn32tab), ("math/bits.deBruijn64tab", laid_math_bits_deBruijn64tab), ("internal/strconv.uint64pow10", laid_internal_strconv_uint64pow10), ("unicode/utf8.acceptRanges", laid_unicode_utf8_acceptRanges), ("cicerone/event.kindNames", laid_cicerone_event_kindNames), ("unicode/utf8.first", laid_unicode_utf8_first)] }
def ExportPeopleSaid : Prop := exportPeopleRow.holds Tryd.pinned (OpenSpec.ofChange exportPeopleSpec)

/-- ITS FALSE NEIGHBOUR: 'it returns false'. Refute it at one input. -/
def exportPeopleWrong : ChangeSpec := { name := "exportPeople", fn := fun _ => fun
  | [d] => { results := [.lit (.bool false)], args := [d] }
  | _ => none }
def ExportPeopleWrongFalsely : Prop := exportPeopleRow.holds Tryd.pinned (OpenSpec.ofChange exportPeopleWrong)

/- THE SECOND FORM. 'bulk': how many values and letters a reading holds, each counted each time it is reached (what is shared counts as often as it is met; a slice's spare places count too). A statement '..UptoSaid' is the law's where the arguments, and the package variables that the reading takes, are together of bulk at most 1048576: NARROWER than '..Said'. Prove '..Said' where nothing that the law and all that it calls make is longer than what came in: it says more and counts as full. Else prove '..UptoSaid'. A law counts once. -/
mutual
def uptoBulk {H : Type} : DataW H → Nat
  | .lit (.string bytes) => bytes.length + 1
  | .lit _ => 1
  | .nil => 1
  | .ptr d => uptoBulk d + 1
  | .slice elems spare => uptoBulkAll elems + uptoBulkAll spare + 1
  | .agg parts => uptoBulkAll parts + 1
  | .iface _ d => uptoBulk d + 1
  | .map entries => uptoBulkEntries entries + 1
  | .held _ => 1
def uptoBulkAll {H : Type} : List (DataW H) → Nat
  | [] => 0
  | d :: r => uptoBulk d + uptoBulkAll r
def uptoBulkEntries {H : Type} : List (Lit × DataW H) → Nat
  | [] => 0
  | x :: r => uptoBulkEntry x + uptoBulkEntries r
def uptoBulkEntry {H : Type} : Lit × DataW H → Nat
  | (.string bytes, d) => bytes.length + uptoBulk d + 1
  | (_, d) => uptoBulk d + 1
 end
def uptoSmall : (H : Type) → List (DataW H) → Bool := fun _ ds => decide (uptoBulkAll ds ≤ 1048576)
def OpenSpec.upto (s : _root_.Go.ChangeSpec) : _root_.Go.OpenSpec := { _root_.Go.OpenSpec.ofChange s with cond := some uptoSmall }

/-- 'ciceronelaw02.EventSorts', WHERE WHAT IT READS IS OF BULK AT MOST 1048576: true; the input reads as it did. -/
def eventSortsUptoRow : OpenClaim := { program := "ytmhkgfoimkonoaadoor", sum := "e55101e0b577564e4574fc4d2d81ba37a6ca864247b80d32d6657f2b5a0c09da", func := "cicerone/ciceronelaw02.EventSorts", spec := "eventSorts", inPlace := ["internal/bytealg.IndexByteString", "internal/bytealg.IndexString", "internal/bytealg.CountString", "internal/abi.NoEscape", "internal/bytealg.MakeNoZero", "internal/bytealg.abigen_runtime_cmpstring"], unfollowed := true, recurses := true, named := ["internal/bytealg.MaxLen", "unicode/utf8.first", "unicode/utf8.acceptRanges", "cicerone/event.kindNames", "internal/strconv.uint64pow10", "math/bits.deBruijn32tab", "math/bits.deBruijn64tab"], plainKeys := false, apart := false, laid := [("math/bits.deBruijn32tab", laid_math_bits_deBruijn32tab), ("math/bits.deBruijn64tab", laid_math_bits_deBruijn64tab), ("internal/strconv.uint64pow10", laid_internal_strconv_uint64pow10), ("unicode/utf8.acceptRanges", laid_unicode_utf8_acceptRanges), ("cicerone/event.kindNames", laid_cicerone_event_kindNames), ("unicode/utf8.first", laid_unicode_utf8_first)], narrowed := true }
def EventSortsUptoSaid : Prop := eventSortsUptoRow.holds Tryd.pinned (OpenSpec.upto eventSortsSpec)

/-- 'ciceronelaw42.ExportBack', WHERE WHAT IT READS IS OF BULK AT MOST 1048576: true; the input reads as it did. -/
def exportBackUptoRow : OpenClaim := { program := "ytmhkgfoimkonoaadoor", sum := "e55101e0b577564e4574fc4d2d81ba37a6ca864247b80d32d6657f2b5a0c09da", func := "cicerone/ciceronelaw42.ExportBack", spec := "exportBack", inPlace := ["internal/bytealg.IndexByteString", "internal/bytealg.IndexString", "internal/bytealg.CountString", "internal/abi.NoEscape", "internal/bytealg.MakeNoZero", "internal/bytealg.abigen_runtime_cmpstring"], unfollowed := true, recurses := true, named := ["internal/bytealg.MaxLen", "cicerone/event.kindNames", "unicode/utf8.first", "unicode/utf8.acceptRanges", "internal/strconv.uint64pow10", "math/bits.deBruijn32tab", "math/bits.deBruijn64tab"], plainKeys := false, apart := false, laid := [("math/bits.deBruijn32tab", laid_math_bits_deBruijn32tab), ("math/bits.deBruijn64tab", laid_math_bits_deBruijn64tab), ("internal/strconv.uint64pow10", laid_internal_strconv_uint64pow10), ("unicode/utf8.acceptRanges", laid_unicode_utf8_acceptRanges), ("cicerone/event.kindNames", laid_cicerone_event_kindNames), ("unicode/utf8.first", laid_unicode_utf8_first)], narrowed := true }
def ExportBackUptoSaid : Prop := exportBackUptoRow.holds Tryd.pinned (OpenSpec.upto exportBackSpec)

/-- 'ciceronelaw42.ExportImports', WHERE WHAT IT READS IS OF BULK AT MOST 1048576: true; the input reads as it did. -/
def exportImportsUptoRow : OpenClaim := { program := "ytmhkgfoimkonoaadoor", sum := "e55101e0b577564e4574fc4d2d81ba37a6ca864247b80d32d6657f2b5a0c09da", func := "cicerone/ciceronelaw42.ExportImports", spec := "exportImports", inPlace := ["internal/bytealg.IndexByteString", "internal/bytealg.IndexString", "internal/bytealg.CountString", "internal/abi.NoEscape", "internal/bytealg.MakeNoZero", "internal/bytealg.abigen_runtime_cmpstring"], unfollowed := true, recurses := true, named := ["internal/bytealg.MaxLen", "cicerone/event.kindNames", "unicode/utf8.first", "unicode/utf8.acceptRanges", "internal/strconv.uint64pow10", "math/bits.deBruijn32tab", "math/bits.deBruijn64tab"], plainKeys := false, apart := false, laid := [("math/bits.deBruijn32tab", laid_math_bits_deBruijn32tab), ("math/bits.deBruijn64tab", laid_math_bits_deBruijn64tab), ("internal/strconv.uint64pow10", laid_internal_strconv_uint64pow10), ("unicode/utf8.acceptRanges", laid_unicode_utf8_acceptRanges), ("cicerone/event.kindNames", laid_cicerone_event_kindNames), ("unicode/utf8.first", laid_unicode_utf8_first)], narrowed := true }
def ExportImportsUptoSaid : Prop := exportImportsUptoRow.holds Tryd.pinned (OpenSpec.upto exportImportsSpec)

/-- 'ciceronelaw42.ExportAll', WHERE WHAT IT READS IS OF BULK AT MOST 1048576: true; the input reads as it did. -/
def exportAllUptoRow : OpenClaim := { program := "ytmhkgfoimkonoaadoor", sum := "e55101e0b577564e4574fc4d2d81ba37a6ca864247b80d32d6657f2b5a0c09da", func := "cicerone/ciceronelaw42.ExportAll", spec := "exportAll", inPlace := ["internal/bytealg.IndexByteString", "internal/bytealg.IndexString", "internal/bytealg.CountString", "internal/abi.NoEscape", "internal/bytealg.MakeNoZero", "internal/bytealg.abigen_runtime_cmpstring"], unfollowed := true, recurses := true, named := ["internal/bytealg.MaxLen", "cicerone/event.kindNames", "unicode/utf8.first", "unicode/utf8.acceptRanges", "internal/strconv.uint64pow10", "math/bits.deBruijn32tab", "math/bits.deBruijn64tab"], plainKeys := false, apart := false, laid := [("math/bits.deBruijn32tab", laid_math_bits_deBruijn32tab), ("math/bits.deBruijn64tab", laid_math_bits_deBruijn64tab), ("internal/strconv.uint64pow10", laid_internal_strconv_uint64pow10), ("unicode/utf8.acceptRanges", laid_unicode_utf8_acceptRanges), ("cicerone/event.kindNames", laid_cicerone_event_kindNames), ("unicode/utf8.first", laid_unicode_utf8_first)], narrowed := true }
def ExportAllUptoSaid : Prop := exportAllUptoRow.holds Tryd.pinned (OpenSpec.upto exportAllSpec)

/-- 'ciceronelaw42.ExportMerges', WHERE WHAT IT READS IS OF BULK AT MOST 1048576: true; the input reads as it did. -/
def exportMergesUptoRow : OpenClaim := { program := "ytmhkgfoimkonoaadoor", sum := "e55101e0b577564e4574fc4d2d81ba37a6ca864247b80d32d6657f2b5a0c09da", func := "cicerone/ciceronelaw42.ExportMerges", spec := "exportMerges", inPlace := ["internal/bytealg.IndexByteString", "internal/bytealg.IndexString", "internal/bytealg.CountString", "internal/abi.NoEscape", "internal/bytealg.MakeNoZero", "internal/bytealg.abigen_runtime_cmpstring"], unfollowed := true, recurses := true, named := ["internal/bytealg.MaxLen", "cicerone/event.kindNames", "unicode/utf8.first", "unicode/utf8.acceptRanges", "internal/strconv.uint64pow10", "math/bits.deBruijn32tab", "math/bits.deBruijn64tab"], plainKeys := false, apart := false, laid := [("math/bits.deBruijn32tab", laid_math_bits_deBruijn32tab), ("math/bits.deBruijn64tab", laid_math_bits_deBruijn64tab), ("internal/strconv.uint64pow10", laid_internal_strconv_uint64pow10), ("unicode/utf8.acceptRanges", laid_unicode_utf8_acceptRanges), ("cicerone/event.kindNames", laid_cicerone_event_kindNames), ("unicode/utf8.first", laid_unicode_utf8_first)], narrowed := true }
def ExportMergesUptoSaid : Prop := exportMergesUptoRow.holds Tryd.pinned (OpenSpec.upto exportMergesSpec)

/-- 'ciceronelaw42.ExportSame', WHERE WHAT IT READS IS OF BULK AT MOST 1048576: true; the input reads as it did. -/
def exportSameUptoRow : OpenClaim := { program := "ytmhkgfoimkonoaadoor", sum := "e55101e0b577564e4574fc4d2d81ba37a6ca864247b80d32d6657f2b5a0c09da", func := "cicerone/ciceronelaw42.ExportSame", spec := "exportSame", inPlace := ["internal/bytealg.IndexByteString", "internal/bytealg.IndexString", "internal/bytealg.CountString", "internal/abi.NoEscape", "internal/bytealg.MakeNoZero", "internal/bytealg.abigen_runtime_cmpstring"], unfollowed := true, recurses := true, named := ["internal/bytealg.MaxLen", "cicerone/event.kindNames", "unicode/utf8.first", "unicode/utf8.acceptRanges", "internal/strconv.uint64pow10", "math/bits.deBruijn32tab", "math/bits.deBruijn64tab"], plainKeys := false, apart := false, laid := [("math/bits.deBruijn32tab", laid_math_bits_deBruijn32tab), ("math/bits.deBruijn64tab", laid_math_bits_deBruijn64tab), ("internal/strconv.uint64pow10", laid_internal_strconv_uint64pow10), ("unicode/utf8.acceptRanges", laid_unicode_utf8_acceptRanges), ("cicerone/event.kindNames", laid_cicerone_event_kindNames), ("unicode/utf8.first", laid_unicode_utf8_first)], narrowed := true }
def ExportSameUptoSaid : Prop := exportSameUptoRow.holds Tryd.pinned (OpenSpec.upto exportSameSpec)

/-- 'ciceronelaw42.ExportPeople', WHERE WHAT IT READS IS OF BULK AT MOST 1048576: true; the input reads as it did. -/
def exportPeopleUptoRow : OpenClaim := { program := "ytmhkgfoimkonoaadoor", sum := "e55101e0b577564e4574fc4d2d81ba37a6ca864247b80d32d6657f2b5a0c09da", func := "cicerone/ciceronelaw42.ExportPeople", spec := "exportPeople", inPlace := ["internal/bytealg.IndexByteString", "internal/bytealg.IndexString", "internal/bytealg.CountString", "internal/abi.NoEscape", "internal/bytealg.MakeNoZero", "internal/bytealg.abigen_runtime_cmpstring"], unfollowed := true, recurses := true, named := ["internal/bytealg.MaxLen", "cicerone/event.kindNames", "unicode/utf8.first", "unicode/utf8.acceptRanges", "internal/strconv.uint64pow10", "math/bits.deBruijn32tab", "math/bits.deBruijn64tab"], plainKeys := false, apart := false, laid := [("math/bits.deBruijn32tab", laid_math_bits_deBruijn32tab), ("math/bits.deBruijn64tab", laid_math_bits_deBruijn64tab), ("internal/strconv.uint64pow10", laid_internal_strconv_uint64pow10), ("unicode/utf8.acceptRanges", laid_unicode_utf8_acceptRanges), ("cicerone/event.kindNames", laid_cicerone_event_kindNames), ("unicode/utf8.first", laid_unicode_utf8_first)], narrowed := true }
def ExportPeopleUptoSaid : Prop := exportPeopleUptoRow.holds Tryd.pinned (OpenSpec.upto exportPeopleSpec)

end Rows
end Go.Proofs.YtmhkgfoimkonoaaDoor
