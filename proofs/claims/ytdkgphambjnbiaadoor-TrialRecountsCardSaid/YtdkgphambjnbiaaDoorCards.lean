/-
  DERIVED. GIVEN WITH THE SEED: THE CARDS: each row of YtdkgphambjnbiaaDoorRows.lean that lists a variable, with what it lists TIED to the program's text (the seventh form; the later family's looks); each row that meets fmt, with fmt's text TOLD by the authors' own Lean function (tested against real Go, not proved from fmt's source: count such statements apart). THE CARD IS WHAT COUNTS. Prove the row's statement (the work); the ties are given (YtdkgphambjnbiaaDoorTie.lean); close each card by the builder's one call (the guide's Derived/Test/ToyasCard.lean, 'card_holds'). Laid BY PROGRAM, IN A SANDBOX (cutbox-door.mjs). By AI agents, Wed Nov 11 2026. No macro, syntax, notation, axiom, sorry.
-/
import Derived.Test.YtdkgphambjnbiaaDoorRows
import GoSem.ClaimSeven
namespace Go.Proofs.YtdkgphambjnbiaaDoor
namespace Rows

/-- THE TIED CARD OF 'ciceronelaw27.TrialArms'. -/
def trialArmsCard : Claim7 := { stood := { row := trialArmsRow, standIns := [], harness := (true, "24403751e9f520de79527f0f6f1182a632d4a62d97c4dad00730eee2236d53ee"), looks := false }, kinds := [], alts := [], laidByText := true, laidKinds := [.data, .pinned], laidTests := true, laidLooks := .later }
def TrialArmsCardSaid : Prop := Claim7.holds Tryd.pinned (.plain (OpenSpec.ofChange trialArmsSpec)) trialArmsCard

/-- THE TIED CARD OF 'ciceronelaw27.TrialReports'. -/
def trialReportsCard : Claim7 := { stood := { row := trialReportsRow, standIns := [], harness := (true, "24403751e9f520de79527f0f6f1182a632d4a62d97c4dad00730eee2236d53ee"), looks := false }, kinds := [], alts := [], laidByText := true, laidKinds := [.data, .pinned], laidTests := true, laidLooks := .later }
def TrialReportsCardSaid : Prop := Claim7.holds Tryd.pinned (.plain (OpenSpec.ofChange trialReportsSpec)) trialReportsCard

/-- THE TIED CARD OF 'ciceronelaw27.TrialRamps'. -/
def trialRampsCard : Claim7 := { stood := { row := trialRampsRow, standIns := [], harness := (true, "24403751e9f520de79527f0f6f1182a632d4a62d97c4dad00730eee2236d53ee"), looks := false }, kinds := [], alts := [], laidByText := true, laidKinds := [.data, .pinned], laidTests := true, laidLooks := .later }
def TrialRampsCardSaid : Prop := Claim7.holds Tryd.pinned (.plain (OpenSpec.ofChange trialRampsSpec)) trialRampsCard

/-- THE TIED CARD OF 'ciceronelaw27.TrialSplits'. -/
def trialSplitsCard : Claim7 := { stood := { row := trialSplitsRow, standIns := [], harness := (true, "24403751e9f520de79527f0f6f1182a632d4a62d97c4dad00730eee2236d53ee"), looks := false }, kinds := [], alts := [], laidByText := true, laidKinds := [.data, .pinned], laidTests := true, laidLooks := .later }
def TrialSplitsCardSaid : Prop := Claim7.holds Tryd.pinned (.plain (OpenSpec.ofChange trialSplitsSpec)) trialSplitsCard

/-- THE TIED CARD OF 'ciceronelaw27.TrialSums'. -/
def trialSumsCard : Claim7 := { stood := { row := trialSumsRow, standIns := [], harness := (true, "24403751e9f520de79527f0f6f1182a632d4a62d97c4dad00730eee2236d53ee"), looks := false }, kinds := [], alts := [], laidByText := true, laidKinds := [.data, .pinned], laidTests := true, laidLooks := .later }
def TrialSumsCardSaid : Prop := Claim7.holds Tryd.pinned (.plain (OpenSpec.ofChange trialSumsSpec)) trialSumsCard

/-- THE TIED CARD OF 'ciceronelaw27.TrialRecounts'. -/
def trialRecountsCard : Claim7 := { stood := { row := trialRecountsRow, standIns := [], harness := (true, "24403751e9f520de79527f0f6f1182a632d4a62d97c4dad00730eee2236d53ee"), looks := false }, kinds := [], alts := [], laidByText := true, laidKinds := [.data, .pinned], laidTests := true, laidLooks := .later }
def TrialRecountsCardSaid : Prop := Claim7.holds Tryd.pinned (.plain (OpenSpec.ofChange trialRecountsSpec)) trialRecountsCard

/-- THE TIED CARD OF 'ciceronelaw27.TrialBooks'. -/
def trialBooksCard : Claim7 := { stood := { row := trialBooksRow, standIns := [], harness := (true, "24403751e9f520de79527f0f6f1182a632d4a62d97c4dad00730eee2236d53ee"), looks := false }, kinds := [], alts := [], laidByText := true, laidKinds := [.data, .pinned], laidTests := true, laidLooks := .later }
def TrialBooksCardSaid : Prop := Claim7.holds Tryd.pinned (.plain (OpenSpec.ofChange trialBooksSpec)) trialBooksCard

/-- THE TIED CARD OF 'ciceronelaw27.TrialLayers'. -/
def trialLayersCard : Claim7 := { stood := { row := trialLayersRow, standIns := [], harness := (true, "24403751e9f520de79527f0f6f1182a632d4a62d97c4dad00730eee2236d53ee"), looks := false }, kinds := [], alts := [], laidByText := true, laidKinds := [.data, .pinned], laidTests := true, laidLooks := .later }
def TrialLayersCardSaid : Prop := Claim7.holds Tryd.pinned (.plain (OpenSpec.ofChange trialLayersSpec)) trialLayersCard

/-- THE SECOND FORM's CARD OF 'ciceronelaw27.TrialArms'. -/
def trialArmsUptoCard : Claim7 := { stood := { row := trialArmsUptoRow, standIns := [], harness := (true, "24403751e9f520de79527f0f6f1182a632d4a62d97c4dad00730eee2236d53ee"), looks := false }, kinds := [], alts := [], laidByText := true, laidKinds := [.data, .pinned], laidTests := true, laidLooks := .later }
def TrialArmsUptoCardSaid : Prop := Claim7.holds Tryd.pinned (.plain (OpenSpec.upto trialArmsSpec)) trialArmsUptoCard

/-- THE SECOND FORM's CARD OF 'ciceronelaw27.TrialReports'. -/
def trialReportsUptoCard : Claim7 := { stood := { row := trialReportsUptoRow, standIns := [], harness := (true, "24403751e9f520de79527f0f6f1182a632d4a62d97c4dad00730eee2236d53ee"), looks := false }, kinds := [], alts := [], laidByText := true, laidKinds := [.data, .pinned], laidTests := true, laidLooks := .later }
def TrialReportsUptoCardSaid : Prop := Claim7.holds Tryd.pinned (.plain (OpenSpec.upto trialReportsSpec)) trialReportsUptoCard

/-- THE SECOND FORM's CARD OF 'ciceronelaw27.TrialRamps'. -/
def trialRampsUptoCard : Claim7 := { stood := { row := trialRampsUptoRow, standIns := [], harness := (true, "24403751e9f520de79527f0f6f1182a632d4a62d97c4dad00730eee2236d53ee"), looks := false }, kinds := [], alts := [], laidByText := true, laidKinds := [.data, .pinned], laidTests := true, laidLooks := .later }
def TrialRampsUptoCardSaid : Prop := Claim7.holds Tryd.pinned (.plain (OpenSpec.upto trialRampsSpec)) trialRampsUptoCard

/-- THE SECOND FORM's CARD OF 'ciceronelaw27.TrialSplits'. -/
def trialSplitsUptoCard : Claim7 := { stood := { row := trialSplitsUptoRow, standIns := [], harness := (true, "24403751e9f520de79527f0f6f1182a632d4a62d97c4dad00730eee2236d53ee"), looks := false }, kinds := [], alts := [], laidByText := true, laidKinds := [.data, .pinned], laidTests := true, laidLooks := .later }
def TrialSplitsUptoCardSaid : Prop := Claim7.holds Tryd.pinned (.plain (OpenSpec.upto trialSplitsSpec)) trialSplitsUptoCard

/-- THE SECOND FORM's CARD OF 'ciceronelaw27.TrialSums'. -/
def trialSumsUptoCard : Claim7 := { stood := { row := trialSumsUptoRow, standIns := [], harness := (true, "24403751e9f520de79527f0f6f1182a632d4a62d97c4dad00730eee2236d53ee"), looks := false }, kinds := [], alts := [], laidByText := true, laidKinds := [.data, .pinned], laidTests := true, laidLooks := .later }
def TrialSumsUptoCardSaid : Prop := Claim7.holds Tryd.pinned (.plain (OpenSpec.upto trialSumsSpec)) trialSumsUptoCard

/-- THE SECOND FORM's CARD OF 'ciceronelaw27.TrialRecounts'. -/
def trialRecountsUptoCard : Claim7 := { stood := { row := trialRecountsUptoRow, standIns := [], harness := (true, "24403751e9f520de79527f0f6f1182a632d4a62d97c4dad00730eee2236d53ee"), looks := false }, kinds := [], alts := [], laidByText := true, laidKinds := [.data, .pinned], laidTests := true, laidLooks := .later }
def TrialRecountsUptoCardSaid : Prop := Claim7.holds Tryd.pinned (.plain (OpenSpec.upto trialRecountsSpec)) trialRecountsUptoCard

/-- THE SECOND FORM's CARD OF 'ciceronelaw27.TrialBooks'. -/
def trialBooksUptoCard : Claim7 := { stood := { row := trialBooksUptoRow, standIns := [], harness := (true, "24403751e9f520de79527f0f6f1182a632d4a62d97c4dad00730eee2236d53ee"), looks := false }, kinds := [], alts := [], laidByText := true, laidKinds := [.data, .pinned], laidTests := true, laidLooks := .later }
def TrialBooksUptoCardSaid : Prop := Claim7.holds Tryd.pinned (.plain (OpenSpec.upto trialBooksSpec)) trialBooksUptoCard

/-- THE SECOND FORM's CARD OF 'ciceronelaw27.TrialLayers'. -/
def trialLayersUptoCard : Claim7 := { stood := { row := trialLayersUptoRow, standIns := [], harness := (true, "24403751e9f520de79527f0f6f1182a632d4a62d97c4dad00730eee2236d53ee"), looks := false }, kinds := [], alts := [], laidByText := true, laidKinds := [.data, .pinned], laidTests := true, laidLooks := .later }
def TrialLayersUptoCardSaid : Prop := Claim7.holds Tryd.pinned (.plain (OpenSpec.upto trialLayersSpec)) trialLayersUptoCard
end Rows
end Go.Proofs.YtdkgphambjnbiaaDoor
