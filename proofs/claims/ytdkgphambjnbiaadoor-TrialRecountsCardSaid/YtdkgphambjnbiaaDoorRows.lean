/-
  NARROWER THAN 'FOR EVERY INPUT', by the rows' own cells (each row's printed sentence says how): TrialArms: laid · TrialReports: laid · TrialRamps: laid · TrialSplits: laid · TrialSums: laid · TrialRecounts: laid · TrialBooks: laid · TrialLayers: laid.
  DERIVED. THE GIVEN ROWS OF THIS SEAT. 8 by the template 'for every input the law returns true; each argument reads behind the call as it read before'; 0 by the template 'total and deterministic' (their statements: YtdkgphambjnbiaaDoorTotals.lean).
  GIVEN WITH THE SEED: the statements are not yours to turn. If you find one false, say at which input.
  Laid BY PROGRAM, IN A SANDBOX (cutbox-rows.mjs): the forced cells as the released guide's own fill.sh prints them over the translation 0caf0ff0e38652f0… (all of the seat's roots in one cut). By AI agents, Wed Nov 11 2026. No macro, syntax, notation, axiom, sorry.
-/
import Derived.Test.YtdkgphambjnbiaaDoorChecked
import GoSem.PinnedTables
import GoSem.Claim
import GoSem.ClaimJoined
import GoSem.ClaimMapViews
import Derived.JoinedTies
import Derived.KernelRfl
namespace Go.Proofs.YtdkgphambjnbiaaDoor
/- THE CELL 'sum', in the pinned program and in every row, IS THE sha256 OF THE DUMP (.gsa) THAT YtdkgphambjnbiaaDoorProg.lean LOADS. Nothing in Lean hashes anything: it is a label: what it is worth is what the hold of that sum in a sandbox is worth. -/
noncomputable def Tryd.pinned : Pinned := { name := "ytdkgphambjnbiaadoor", sum := "0caf0ff0e38652f0606d709c9713815511ec64cc59675e2263fd687708cc2bb5", checked := Tryd.checked }
namespace Rows
def none {H : Type} : Left H := { results := [], args := [] }

/- WHAT THE LISTED PACKAGE-LEVEL VARIABLES READ AS WHEN THE CALL BEGINS. Each datum BY PROGRAM (the guide's laid-datum.mjs) off the statement by which the dump's own 'gosem.cut.vars' lays the variable. In a bare row this is a premise. The card (YtdkgphambjnbiaaDoorCards.lean) ties it to the program's text. -/
def laid_unicode_utf8_acceptRanges {H : Type} : DataW H := .agg [.agg [.lit (.int .u8 128), .lit (.int .u8 191)], .agg [.lit (.int .u8 160), .lit (.int .u8 191)], .agg [.lit (.int .u8 128), .lit (.int .u8 159)], .agg [.lit (.int .u8 144), .lit (.int .u8 191)], .agg [.lit (.int .u8 128), .lit (.int .u8 143)], .agg [.lit (.int .u8 0), .lit (.int .u8 0)], .agg [.lit (.int .u8 0), .lit (.int .u8 0)], .agg [.lit (.int .u8 0), .lit (.int .u8 0)], .agg [.lit (.int .u8 0), .lit (.int .u8 0)], .agg [.lit (.int .u8 0), .lit (.int .u8 0)], .agg [.lit (.int .u8 0), .lit (.int .u8 0)], .agg [.lit (.int .u8 0), .lit (.int .u8 0)], .agg [.lit (.int .u8 0), .lit (.int .u8 0)], .agg [.lit (.int .u8 0), .lit (.int .u8 0)], .agg [.lit (.int .u8 0), .lit (.int .u8 0)], .agg [.lit (.int .u8 0), .lit (.int .u8 0)]]
/-- One of Go's own tables, pinned by name: the form's constant. -/
def laid_unicode_utf8_first : DataW Unit := Go.Pinned.utf8First

/-- 'ciceronelaw27.TrialArms': WHATEVER THE INPUT: true; the input reads as it did. -/
def trialArmsSpec : ChangeSpec := { name := "trialArms", fn := fun _ => fun
  | [d1, d2, d3] => { results := [.lit (.bool true)], args := [d1, d2, d3] }
  | _ => none }
def trialArmsRow : OpenClaim := { program := "ytdkgphambjnbiaadoor", sum := "0caf0ff0e38652f0606d709c9713815511ec64cc59675e2263fd687708cc2bb5", func := "cicerone/ciceronelaw27.TrialArms", spec := "trialArms", inPlace := ["internal/bytealg.IndexByteString", "internal/bytealg.IndexString", "internal/bytealg.CountString"], unfollowed := true, recurses := true, named := ["internal/bytealg.MaxLen", "unicode/utf8.first", "unicode/utf8.acceptRanges"], plainKeys := false, apart := false, laid := [("unicode/utf8.acceptRanges", laid_unicode_utf8_acceptRanges), ("unicode/utf8.first", laid_unicode_utf8_first)] }
def TrialArmsSaid : Prop := trialArmsRow.holds Tryd.pinned (OpenSpec.ofChange trialArmsSpec)

/-- ITS FALSE NEIGHBOUR: 'it returns false'. Refute it at one input. -/
def trialArmsWrong : ChangeSpec := { name := "trialArms", fn := fun _ => fun
  | [d1, d2, d3] => { results := [.lit (.bool false)], args := [d1, d2, d3] }
  | _ => none }
def TrialArmsWrongFalsely : Prop := trialArmsRow.holds Tryd.pinned (OpenSpec.ofChange trialArmsWrong)

/-- 'ciceronelaw27.TrialReports': WHATEVER THE INPUT: true; the input reads as it did. -/
def trialReportsSpec : ChangeSpec := { name := "trialReports", fn := fun _ => fun
  | [d1, d2, d3, d4] => { results := [.lit (.bool true)], args := [d1, d2, d3, d4] }
  | _ => none }
def trialReportsRow : OpenClaim := { program := "ytdkgphambjnbiaadoor", sum := "0caf0ff0e38652f0606d709c9713815511ec64cc59675e2263fd687708cc2bb5", func := "cicerone/ciceronelaw27.TrialReports", spec := "trialReports", inPlace := ["internal/bytealg.IndexByteString", "internal/bytealg.IndexString", "internal/bytealg.CountString"], unfollowed := true, recurses := true, named := ["internal/bytealg.MaxLen", "unicode/utf8.first", "unicode/utf8.acceptRanges"], plainKeys := false, apart := false, laid := [("unicode/utf8.acceptRanges", laid_unicode_utf8_acceptRanges), ("unicode/utf8.first", laid_unicode_utf8_first)] }
def TrialReportsSaid : Prop := trialReportsRow.holds Tryd.pinned (OpenSpec.ofChange trialReportsSpec)

/-- ITS FALSE NEIGHBOUR: 'it returns false'. Refute it at one input. -/
def trialReportsWrong : ChangeSpec := { name := "trialReports", fn := fun _ => fun
  | [d1, d2, d3, d4] => { results := [.lit (.bool false)], args := [d1, d2, d3, d4] }
  | _ => none }
def TrialReportsWrongFalsely : Prop := trialReportsRow.holds Tryd.pinned (OpenSpec.ofChange trialReportsWrong)

/-- 'ciceronelaw27.TrialRamps': WHATEVER THE INPUT: true; the input reads as it did. -/
def trialRampsSpec : ChangeSpec := { name := "trialRamps", fn := fun _ => fun
  | [d1, d2, d3, d4] => { results := [.lit (.bool true)], args := [d1, d2, d3, d4] }
  | _ => none }
def trialRampsRow : OpenClaim := { program := "ytdkgphambjnbiaadoor", sum := "0caf0ff0e38652f0606d709c9713815511ec64cc59675e2263fd687708cc2bb5", func := "cicerone/ciceronelaw27.TrialRamps", spec := "trialRamps", inPlace := ["internal/bytealg.IndexByteString", "internal/bytealg.IndexString", "internal/bytealg.CountString"], unfollowed := true, recurses := true, named := ["internal/bytealg.MaxLen", "unicode/utf8.first", "unicode/utf8.acceptRanges"], plainKeys := false, apart := false, laid := [("unicode/utf8.acceptRanges", laid_unicode_utf8_acceptRanges), ("unicode/utf8.first", laid_unicode_utf8_first)] }
def TrialRampsSaid : Prop := trialRampsRow.holds Tryd.pinned (OpenSpec.ofChange trialRampsSpec)

/-- ITS FALSE NEIGHBOUR: 'it returns false'. Refute it at one input. -/
def trialRampsWrong : ChangeSpec := { name := "trialRamps", fn := fun _ => fun
  | [d1, d2, d3, d4] => { results := [.lit (.bool false)], args := [d1, d2, d3, d4] }
  | _ => none }
def TrialRampsWrongFalsely : Prop := trialRampsRow.holds Tryd.pinned (OpenSpec.ofChange trialRampsWrong)

/-- 'ciceronelaw27.TrialSplits': WHATEVER THE INPUT: true; the input reads as it did. -/
def trialSplitsSpec : ChangeSpec := { name := "trialSplits", fn := fun _ => fun
  | [d1, d2, d3] => { results := [.lit (.bool true)], args := [d1, d2, d3] }
  | _ => none }
def trialSplitsRow : OpenClaim := { program := "ytdkgphambjnbiaadoor", sum := "0caf0ff0e38652f0606d709c9713815511ec64cc59675e2263fd687708cc2bb5", func := "cicerone/ciceronelaw27.TrialSplits", spec := "trialSplits", inPlace := ["internal/bytealg.IndexByteString", "internal/bytealg.IndexString", "internal/bytealg.CountString"], unfollowed := true, recurses := true, named := ["internal/bytealg.MaxLen", "unicode/utf8.first", "unicode/utf8.acceptRanges"], plainKeys := false, apart := false, laid := [("unicode/utf8.acceptRanges", laid_unicode_utf8_acceptRanges), ("unicode/utf8.first", laid_unicode_utf8_first)] }
def TrialSplitsSaid : Prop := trialSplitsRow.holds Tryd.pinned (OpenSpec.ofChange trialSplitsSpec)

/-- ITS FALSE NEIGHBOUR: 'it returns false'. Refute it at one input. -/
def trialSplitsWrong : ChangeSpec := { name := "trialSplits", fn := fun _ => fun
  | [d1, d2, d3] => { results := [.lit (.bool false)], args := [d1, d2, d3] }
  | _ => none }
def TrialSplitsWrongFalsely : Prop := trialSplitsRow.holds Tryd.pinned (OpenSpec.ofChange trialSplitsWrong)

/-- 'ciceronelaw27.TrialSums': WHATEVER THE INPUT: true; the input reads as it did. -/
def trialSumsSpec : ChangeSpec := { name := "trialSums", fn := fun _ => fun
  | [d1, d2, d3] => { results := [.lit (.bool true)], args := [d1, d2, d3] }
  | _ => none }
def trialSumsRow : OpenClaim := { program := "ytdkgphambjnbiaadoor", sum := "0caf0ff0e38652f0606d709c9713815511ec64cc59675e2263fd687708cc2bb5", func := "cicerone/ciceronelaw27.TrialSums", spec := "trialSums", inPlace := ["internal/bytealg.IndexByteString", "internal/bytealg.IndexString", "internal/bytealg.CountString"], unfollowed := true, recurses := true, named := ["internal/bytealg.MaxLen", "unicode/utf8.first", "unicode/utf8.acceptRanges"], plainKeys := false, apart := false, laid := [("unicode/utf8.acceptRanges", laid_unicode_utf8_acceptRanges), ("unicode/utf8.first", laid_unicode_utf8_first)] }
def TrialSumsSaid : Prop := trialSumsRow.holds Tryd.pinned (OpenSpec.ofChange trialSumsSpec)

/-- ITS FALSE NEIGHBOUR: 'it returns false'. Refute it at one input. -/
def trialSumsWrong : ChangeSpec := { name := "trialSums", fn := fun _ => fun
  | [d1, d2, d3] => { results := [.lit (.bool false)], args := [d1, d2, d3] }
  | _ => none }
def TrialSumsWrongFalsely : Prop := trialSumsRow.holds Tryd.pinned (OpenSpec.ofChange trialSumsWrong)

/-- 'ciceronelaw27.TrialRecounts': WHATEVER THE INPUT: true; the input reads as it did. -/
def trialRecountsSpec : ChangeSpec := { name := "trialRecounts", fn := fun _ => fun
  | [d1, d2, d3, d4] => { results := [.lit (.bool true)], args := [d1, d2, d3, d4] }
  | _ => none }
def trialRecountsRow : OpenClaim := { program := "ytdkgphambjnbiaadoor", sum := "0caf0ff0e38652f0606d709c9713815511ec64cc59675e2263fd687708cc2bb5", func := "cicerone/ciceronelaw27.TrialRecounts", spec := "trialRecounts", inPlace := ["internal/bytealg.IndexByteString", "internal/bytealg.IndexString", "internal/bytealg.CountString"], unfollowed := true, recurses := true, named := ["internal/bytealg.MaxLen", "unicode/utf8.first", "unicode/utf8.acceptRanges"], plainKeys := false, apart := false, laid := [("unicode/utf8.acceptRanges", laid_unicode_utf8_acceptRanges), ("unicode/utf8.first", laid_unicode_utf8_first)] }
def TrialRecountsSaid : Prop := trialRecountsRow.holds Tryd.pinned (OpenSpec.ofChange trialRecountsSpec)

/-- ITS FALSE NEIGHBOUR: 'it returns false'. Refute it at one input. -/
def trialRecountsWrong : ChangeSpec := { name := "trialRecounts", fn := fun _ => fun
  | [d1, d2, d3, d4] => { results := [.lit (.bool false)], args := [d1, d2, d3, d4] }
  | _ => none }
def TrialRecountsWrongFalsely : Prop := trialRecountsRow.holds Tryd.pinned (OpenSpec.ofChange trialRecountsWrong)

/-- 'ciceronelaw27.TrialBooks': WHATEVER THE INPUT: true; the input reads as it did. -/
def trialBooksSpec : ChangeSpec := { name := "trialBooks", fn := fun _ => fun
  | [d1, d2] => { results := [.lit (.bool true)], args := [d1, d2] }
  | _ => none }
def trialBooksRow : OpenClaim := { program := "ytdkgphambjnbiaadoor", sum := "0caf0ff0e38652f0606d709c9713815511ec64cc59675e2263fd687708cc2bb5", func := "cicerone/ciceronelaw27.TrialBooks", spec := "trialBooks", inPlace := ["internal/bytealg.IndexByteString", "internal/bytealg.IndexString", "internal/bytealg.CountString"], unfollowed := true, recurses := true, named := ["internal/bytealg.MaxLen", "unicode/utf8.first", "unicode/utf8.acceptRanges"], plainKeys := false, apart := false, laid := [("unicode/utf8.acceptRanges", laid_unicode_utf8_acceptRanges), ("unicode/utf8.first", laid_unicode_utf8_first)] }
def TrialBooksSaid : Prop := trialBooksRow.holds Tryd.pinned (OpenSpec.ofChange trialBooksSpec)

/-- ITS FALSE NEIGHBOUR: 'it returns false'. Refute it at one input. -/
def trialBooksWrong : ChangeSpec := { name := "trialBooks", fn := fun _ => fun
  | [d1, d2] => { results := [.lit (.bool false)], args := [d1, d2] }
  | _ => none }
def TrialBooksWrongFalsely : Prop := trialBooksRow.holds Tryd.pinned (OpenSpec.ofChange trialBooksWrong)

/-- 'ciceronelaw27.TrialLayers': WHATEVER THE INPUT: true; the input reads as it did. -/
def trialLayersSpec : ChangeSpec := { name := "trialLayers", fn := fun _ => fun
  | [d1, d2, d3] => { results := [.lit (.bool true)], args := [d1, d2, d3] }
  | _ => none }
def trialLayersRow : OpenClaim := { program := "ytdkgphambjnbiaadoor", sum := "0caf0ff0e38652f0606d709c9713815511ec64cc59675e2263fd687708cc2bb5", func := "cicerone/ciceronelaw27.TrialLayers", spec := "trialLayers", inPlace := ["internal/bytealg.IndexByteString", "internal/bytealg.IndexString", "internal/bytealg.CountString"], unfollowed := true, recurses := true, named := ["internal/bytealg.MaxLen", "unicode/utf8.first", "unicode/utf8.acceptRanges"], plainKeys := false, apart := false, laid := [("unicode/utf8.acceptRanges", laid_unicode_utf8_acceptRanges), ("unicode/utf8.first", laid_unicode_utf8_first)] }
def TrialLayersSaid : Prop := trialLayersRow.holds Tryd.pinned (OpenSpec.ofChange trialLayersSpec)

/-- ITS FALSE NEIGHBOUR: 'it returns false'. Refute it at one input. -/
def trialLayersWrong : ChangeSpec := { name := "trialLayers", fn := fun _ => fun
  | [d1, d2, d3] => { results := [.lit (.bool false)], args := [d1, d2, d3] }
  | _ => none }
def TrialLayersWrongFalsely : Prop := trialLayersRow.holds Tryd.pinned (OpenSpec.ofChange trialLayersWrong)

/- THE SECOND FORM. 'bulk': how many values and letters a reading holds, each counted each time it is reached (what is shared counts as often as it is met; a slice's spare places count too). A statement '..UptoSaid' is the law's where the arguments, and the package variables that the reading takes, are together of bulk at most 1048576: NARROWER than '..Said'. Prove '..Said' where nothing that the law and all that it calls make is longer than what came in: it says more and counts as full. Else prove '..UptoSaid'. A law counts once. -/
mutual
def uptoBulk {H : Type} : DataW H → Nat
  | .lit (.string bytes) => bytes.length + 1
  | .lit _ => 1
  | .nil => 1
  | .ptr d => uptoBulk d + 1
  | .slice elems spare => uptoBulkAll elems + uptoBulkAll spare + 1
  | .agg parts => uptoBulkAll parts + 1
  | .iface _ d => uptoBulk d + 1
  | .map entries => uptoBulkEntries entries + 1
  | .held _ => 1
def uptoBulkAll {H : Type} : List (DataW H) → Nat
  | [] => 0
  | d :: r => uptoBulk d + uptoBulkAll r
def uptoBulkEntries {H : Type} : List (Lit × DataW H) → Nat
  | [] => 0
  | x :: r => uptoBulkEntry x + uptoBulkEntries r
def uptoBulkEntry {H : Type} : Lit × DataW H → Nat
  | (.string bytes, d) => bytes.length + uptoBulk d + 1
  | (_, d) => uptoBulk d + 1
 end
def uptoSmall : (H : Type) → List (DataW H) → Bool := fun _ ds => decide (uptoBulkAll ds ≤ 1048576)
def OpenSpec.upto (s : _root_.Go.ChangeSpec) : _root_.Go.OpenSpec := { _root_.Go.OpenSpec.ofChange s with cond := some uptoSmall }

/-- 'ciceronelaw27.TrialArms', WHERE WHAT IT READS IS OF BULK AT MOST 1048576: true; the input reads as it did. -/
def trialArmsUptoRow : OpenClaim := { program := "ytdkgphambjnbiaadoor", sum := "0caf0ff0e38652f0606d709c9713815511ec64cc59675e2263fd687708cc2bb5", func := "cicerone/ciceronelaw27.TrialArms", spec := "trialArms", inPlace := ["internal/bytealg.IndexByteString", "internal/bytealg.IndexString", "internal/bytealg.CountString"], unfollowed := true, recurses := true, named := ["internal/bytealg.MaxLen", "unicode/utf8.first", "unicode/utf8.acceptRanges"], plainKeys := false, apart := false, laid := [("unicode/utf8.acceptRanges", laid_unicode_utf8_acceptRanges), ("unicode/utf8.first", laid_unicode_utf8_first)], narrowed := true }
def TrialArmsUptoSaid : Prop := trialArmsUptoRow.holds Tryd.pinned (OpenSpec.upto trialArmsSpec)

/-- 'ciceronelaw27.TrialReports', WHERE WHAT IT READS IS OF BULK AT MOST 1048576: true; the input reads as it did. -/
def trialReportsUptoRow : OpenClaim := { program := "ytdkgphambjnbiaadoor", sum := "0caf0ff0e38652f0606d709c9713815511ec64cc59675e2263fd687708cc2bb5", func := "cicerone/ciceronelaw27.TrialReports", spec := "trialReports", inPlace := ["internal/bytealg.IndexByteString", "internal/bytealg.IndexString", "internal/bytealg.CountString"], unfollowed := true, recurses := true, named := ["internal/bytealg.MaxLen", "unicode/utf8.first", "unicode/utf8.acceptRanges"], plainKeys := false, apart := false, laid := [("unicode/utf8.acceptRanges", laid_unicode_utf8_acceptRanges), ("unicode/utf8.first", laid_unicode_utf8_first)], narrowed := true }
def TrialReportsUptoSaid : Prop := trialReportsUptoRow.holds Tryd.pinned (OpenSpec.upto trialReportsSpec)

/-- 'ciceronelaw27.TrialRamps', WHERE WHAT IT READS IS OF BULK AT MOST 1048576: true; the input reads as it did. -/
def trialRampsUptoRow : OpenClaim := { program := "ytdkgphambjnbiaadoor", sum := "0caf0ff0e38652f0606d709c9713815511ec64cc59675e2263fd687708cc2bb5", func := "cicerone/ciceronelaw27.TrialRamps", spec := "trialRamps", inPlace := ["internal/bytealg.IndexByteString", "internal/bytealg.IndexString", "internal/bytealg.CountString"], unfollowed := true, recurses := true, named := ["internal/bytealg.MaxLen", "unicode/utf8.first", "unicode/utf8.acceptRanges"], plainKeys := false, apart := false, laid := [("unicode/utf8.acceptRanges", laid_unicode_utf8_acceptRanges), ("unicode/utf8.first", laid_unicode_utf8_first)], narrowed := true }
def TrialRampsUptoSaid : Prop := trialRampsUptoRow.holds Tryd.pinned (OpenSpec.upto trialRampsSpec)

/-- 'ciceronelaw27.TrialSplits', WHERE WHAT IT READS IS OF BULK AT MOST 1048576: true; the input reads as it did. -/
def trialSplitsUptoRow : OpenClaim := { program := "ytdkgphambjnbiaadoor", sum := "0caf0ff0e38652f0606d709c9713815511ec64cc59675e2263fd687708cc2bb5", func := "cicerone/ciceronelaw27.TrialSplits", spec := "trialSplits", inPlace := ["internal/bytealg.IndexByteString", "internal/bytealg.IndexString", "internal/bytealg.CountString"], unfollowed := true, recurses := true, named := ["internal/bytealg.MaxLen", "unicode/utf8.first", "unicode/utf8.acceptRanges"], plainKeys := false, apart := false, laid := [("unicode/utf8.acceptRanges", laid_unicode_utf8_acceptRanges), ("unicode/utf8.first", laid_unicode_utf8_first)], narrowed := true }
def TrialSplitsUptoSaid : Prop := trialSplitsUptoRow.holds Tryd.pinned (OpenSpec.upto trialSplitsSpec)

/-- 'ciceronelaw27.TrialSums', WHERE WHAT IT READS IS OF BULK AT MOST 1048576: true; the input reads as it did. -/
def trialSumsUptoRow : OpenClaim := { program := "ytdkgphambjnbiaadoor", sum := "0caf0ff0e38652f0606d709c9713815511ec64cc59675e2263fd687708cc2bb5", func := "cicerone/ciceronelaw27.TrialSums", spec := "trialSums", inPlace := ["internal/bytealg.IndexByteString", "internal/bytealg.IndexString", "internal/bytealg.CountString"], unfollowed := true, recurses := true, named := ["internal/bytealg.MaxLen", "unicode/utf8.first", "unicode/utf8.acceptRanges"], plainKeys := false, apart := false, laid := [("unicode/utf8.acceptRanges", laid_unicode_utf8_acceptRanges), ("unicode/utf8.first", laid_unicode_utf8_first)], narrowed := true }
def TrialSumsUptoSaid : Prop := trialSumsUptoRow.holds Tryd.pinned (OpenSpec.upto trialSumsSpec)

/-- 'ciceronelaw27.TrialRecounts', WHERE WHAT IT READS IS OF BULK AT MOST 1048576: true; the input reads as it did. -/
def trialRecountsUptoRow : OpenClaim := { program := "ytdkgphambjnbiaadoor", sum := "0caf0ff0e38652f0606d709c9713815511ec64cc59675e2263fd687708cc2bb5", func := "cicerone/ciceronelaw27.TrialRecounts", spec := "trialRecounts", inPlace := ["internal/bytealg.IndexByteString", "internal/bytealg.IndexString", "internal/bytealg.CountString"], unfollowed := true, recurses := true, named := ["internal/bytealg.MaxLen", "unicode/utf8.first", "unicode/utf8.acceptRanges"], plainKeys := false, apart := false, laid := [("unicode/utf8.acceptRanges", laid_unicode_utf8_acceptRanges), ("unicode/utf8.first", laid_unicode_utf8_first)], narrowed := true }
def TrialRecountsUptoSaid : Prop := trialRecountsUptoRow.holds Tryd.pinned (OpenSpec.upto trialRecountsSpec)

/-- 'ciceronelaw27.TrialBooks', WHERE WHAT IT READS IS OF BULK AT MOST 1048576: true; the input reads as it did. -/
def trialBooksUptoRow : OpenClaim := { program := "ytdkgphambjnbiaadoor", sum := "0caf0ff0e38652f0606d709c9713815511ec64cc59675e2263fd687708cc2bb5", func := "cicerone/ciceronelaw27.TrialBooks", spec := "trialBooks", inPlace := ["internal/bytealg.IndexByteString", "internal/bytealg.IndexString", "internal/bytealg.CountString"], unfollowed := true, recurses := true, named := ["internal/bytealg.MaxLen", "unicode/utf8.first", "unicode/utf8.acceptRanges"], plainKeys := false, apart := false, laid := [("unicode/utf8.acceptRanges", laid_unicode_utf8_acceptRanges), ("unicode/utf8.first", laid_unicode_utf8_first)], narrowed := true }
def TrialBooksUptoSaid : Prop := trialBooksUptoRow.holds Tryd.pinned (OpenSpec.upto trialBooksSpec)

/-- 'ciceronelaw27.TrialLayers', WHERE WHAT IT READS IS OF BULK AT MOST 1048576: true; the input reads as it did. -/
def trialLayersUptoRow : OpenClaim := { program := "ytdkgphambjnbiaadoor", sum := "0caf0ff0e38652f0606d709c9713815511ec64cc59675e2263fd687708cc2bb5", func := "cicerone/ciceronelaw27.TrialLayers", spec := "trialLayers", inPlace := ["internal/bytealg.IndexByteString", "internal/bytealg.IndexString", "internal/bytealg.CountString"], unfollowed := true, recurses := true, named := ["internal/bytealg.MaxLen", "unicode/utf8.first", "unicode/utf8.acceptRanges"], plainKeys := false, apart := false, laid := [("unicode/utf8.acceptRanges", laid_unicode_utf8_acceptRanges), ("unicode/utf8.first", laid_unicode_utf8_first)], narrowed := true }
def TrialLayersUptoSaid : Prop := trialLayersUptoRow.holds Tryd.pinned (OpenSpec.upto trialLayersSpec)

end Rows
end Go.Proofs.YtdkgphambjnbiaaDoor
