/-
  DERIVED. GIVEN WITH THE SEED: THE CARDS: each row of YtihdeidaekheoaaDoorRows.lean that lists a variable, with what it lists TIED to the program's text (the seventh form; the later family's looks); each row that meets fmt, with fmt's text TOLD by the authors' own Lean function (tested against real Go, not proved from fmt's source: count such statements apart). THE CARD IS WHAT COUNTS. Prove the row's statement (the work); the ties are given (YtihdeidaekheoaaDoorTie.lean); close each card by the builder's one call (the guide's Derived/Test/ToyasCard.lean, 'card_holds'). Laid BY PROGRAM, IN A SANDBOX (cutbox-door.mjs). By AI agents, Wed Nov 11 2026. No macro, syntax, notation, axiom, sorry.
-/
import Derived.Test.YtihdeidaekheoaaDoorRows
import GoSem.ClaimSeven
namespace Go.Proofs.YtihdeidaekheoaaDoor
namespace Rows

/-- THE TIED CARD OF 'ciceronelaw02.EventUnlike'. -/
def eventUnlikeCard : Claim7 := { stood := { row := eventUnlikeRow, standIns := [], harness := (true, "6339fa21d3d2ca347c79f4d80bdd21da56e3959dc73a4298b2d0b2799518bcd8"), looks := false }, kinds := [], alts := [], laidByText := true, laidKinds := [.data, .data, .data, .data, .data, .pinned], laidTests := true, laidLooks := .later }
def EventUnlikeCardSaid : Prop := Claim7.holds Tryd.pinned (.plain (OpenSpec.ofChange eventUnlikeSpec)) eventUnlikeCard

/-- THE TIED CARD OF 'ciceronelaw02.EventMay'. -/
def eventMayCard : Claim7 := { stood := { row := eventMayRow, standIns := [], harness := (true, "6339fa21d3d2ca347c79f4d80bdd21da56e3959dc73a4298b2d0b2799518bcd8"), looks := false }, kinds := [], alts := [], laidByText := true, laidKinds := [.data, .data, .data, .data, .data, .pinned], laidTests := true, laidLooks := .later }
def EventMayCardSaid : Prop := Claim7.holds Tryd.pinned (.plain (OpenSpec.ofChange eventMaySpec)) eventMayCard

/-- THE TIED CARD OF 'ciceronelaw02.EventFormats'. -/
def eventFormatsCard : Claim7 := { stood := { row := eventFormatsRow, standIns := [], harness := (true, "6339fa21d3d2ca347c79f4d80bdd21da56e3959dc73a4298b2d0b2799518bcd8"), looks := false }, kinds := [], alts := [], laidByText := true, laidKinds := [.data, .data, .data, .data, .data, .pinned], laidTests := true, laidLooks := .later }
def EventFormatsCardSaid : Prop := Claim7.holds Tryd.pinned (.plain (OpenSpec.ofChange eventFormatsSpec)) eventFormatsCard

/-- THE TIED CARD OF 'ciceronelaw02.EventParses'. -/
def eventParsesCard : Claim7 := { stood := { row := eventParsesRow, standIns := [], harness := (true, "6339fa21d3d2ca347c79f4d80bdd21da56e3959dc73a4298b2d0b2799518bcd8"), looks := false }, kinds := [], alts := [], laidByText := true, laidKinds := [.data, .data, .data, .data, .data, .pinned], laidTests := true, laidLooks := .later }
def EventParsesCardSaid : Prop := Claim7.holds Tryd.pinned (.plain (OpenSpec.ofChange eventParsesSpec)) eventParsesCard

/-- THE TIED CARD OF 'ciceronelaw02.EventCompares'. -/
def eventComparesCard : Claim7 := { stood := { row := eventComparesRow, standIns := [], harness := (true, "6339fa21d3d2ca347c79f4d80bdd21da56e3959dc73a4298b2d0b2799518bcd8"), looks := false }, kinds := [], alts := [], laidByText := true, laidKinds := [.data, .data, .data, .data, .data, .pinned], laidTests := true, laidLooks := .later }
def EventComparesCardSaid : Prop := Claim7.holds Tryd.pinned (.plain (OpenSpec.ofChange eventComparesSpec)) eventComparesCard

/-- THE TIED CARD OF 'ciceronelaw02.EventBytes'. -/
def eventBytesCard : Claim7 := { stood := { row := eventBytesRow, standIns := [], harness := (true, "6339fa21d3d2ca347c79f4d80bdd21da56e3959dc73a4298b2d0b2799518bcd8"), looks := false }, kinds := [], alts := [], laidByText := true, laidKinds := [.data, .data, .data, .data, .data, .pinned], laidTests := true, laidLooks := .later }
def EventBytesCardSaid : Prop := Claim7.holds Tryd.pinned (.plain (OpenSpec.ofChange eventBytesSpec)) eventBytesCard

/-- THE TIED CARD OF 'ciceronelaw02.EventDecodes'. -/
def eventDecodesCard : Claim7 := { stood := { row := eventDecodesRow, standIns := [], harness := (true, "6339fa21d3d2ca347c79f4d80bdd21da56e3959dc73a4298b2d0b2799518bcd8"), looks := false }, kinds := [], alts := [], laidByText := true, laidKinds := [.data, .data, .data, .data, .data, .pinned], laidTests := true, laidLooks := .later }
def EventDecodesCardSaid : Prop := Claim7.holds Tryd.pinned (.plain (OpenSpec.ofChange eventDecodesSpec)) eventDecodesCard

/-- THE TIED CARD OF 'ciceronelaw02.EventRows'. -/
def eventRowsCard : Claim7 := { stood := { row := eventRowsRow, standIns := [], harness := (true, "6339fa21d3d2ca347c79f4d80bdd21da56e3959dc73a4298b2d0b2799518bcd8"), looks := false }, kinds := [], alts := [], laidByText := true, laidKinds := [.data, .data, .data, .data, .data, .pinned], laidTests := true, laidLooks := .later }
def EventRowsCardSaid : Prop := Claim7.holds Tryd.pinned (.plain (OpenSpec.ofChange eventRowsSpec)) eventRowsCard

/-- THE TIED CARD OF 'ciceronelaw02.EventSorts'. -/
def eventSortsCard : Claim7 := { stood := { row := eventSortsRow, standIns := [], harness := (true, "6339fa21d3d2ca347c79f4d80bdd21da56e3959dc73a4298b2d0b2799518bcd8"), looks := false }, kinds := [], alts := [], laidByText := true, laidKinds := [.data, .data, .data, .data, .data, .pinned], laidTests := true, laidLooks := .later }
def EventSortsCardSaid : Prop := Claim7.holds Tryd.pinned (.plain (OpenSpec.ofChange eventSortsSpec)) eventSortsCard

/-- THE SECOND FORM's CARD OF 'ciceronelaw02.EventUnlike'. -/
def eventUnlikeUptoCard : Claim7 := { stood := { row := eventUnlikeUptoRow, standIns := [], harness := (true, "6339fa21d3d2ca347c79f4d80bdd21da56e3959dc73a4298b2d0b2799518bcd8"), looks := false }, kinds := [], alts := [], laidByText := true, laidKinds := [.data, .data, .data, .data, .data, .pinned], laidTests := true, laidLooks := .later }
def EventUnlikeUptoCardSaid : Prop := Claim7.holds Tryd.pinned (.plain (OpenSpec.upto eventUnlikeSpec)) eventUnlikeUptoCard

/-- THE SECOND FORM's CARD OF 'ciceronelaw02.EventMay'. -/
def eventMayUptoCard : Claim7 := { stood := { row := eventMayUptoRow, standIns := [], harness := (true, "6339fa21d3d2ca347c79f4d80bdd21da56e3959dc73a4298b2d0b2799518bcd8"), looks := false }, kinds := [], alts := [], laidByText := true, laidKinds := [.data, .data, .data, .data, .data, .pinned], laidTests := true, laidLooks := .later }
def EventMayUptoCardSaid : Prop := Claim7.holds Tryd.pinned (.plain (OpenSpec.upto eventMaySpec)) eventMayUptoCard

/-- THE SECOND FORM's CARD OF 'ciceronelaw02.EventFormats'. -/
def eventFormatsUptoCard : Claim7 := { stood := { row := eventFormatsUptoRow, standIns := [], harness := (true, "6339fa21d3d2ca347c79f4d80bdd21da56e3959dc73a4298b2d0b2799518bcd8"), looks := false }, kinds := [], alts := [], laidByText := true, laidKinds := [.data, .data, .data, .data, .data, .pinned], laidTests := true, laidLooks := .later }
def EventFormatsUptoCardSaid : Prop := Claim7.holds Tryd.pinned (.plain (OpenSpec.upto eventFormatsSpec)) eventFormatsUptoCard

/-- THE SECOND FORM's CARD OF 'ciceronelaw02.EventParses'. -/
def eventParsesUptoCard : Claim7 := { stood := { row := eventParsesUptoRow, standIns := [], harness := (true, "6339fa21d3d2ca347c79f4d80bdd21da56e3959dc73a4298b2d0b2799518bcd8"), looks := false }, kinds := [], alts := [], laidByText := true, laidKinds := [.data, .data, .data, .data, .data, .pinned], laidTests := true, laidLooks := .later }
def EventParsesUptoCardSaid : Prop := Claim7.holds Tryd.pinned (.plain (OpenSpec.upto eventParsesSpec)) eventParsesUptoCard

/-- THE SECOND FORM's CARD OF 'ciceronelaw02.EventCompares'. -/
def eventComparesUptoCard : Claim7 := { stood := { row := eventComparesUptoRow, standIns := [], harness := (true, "6339fa21d3d2ca347c79f4d80bdd21da56e3959dc73a4298b2d0b2799518bcd8"), looks := false }, kinds := [], alts := [], laidByText := true, laidKinds := [.data, .data, .data, .data, .data, .pinned], laidTests := true, laidLooks := .later }
def EventComparesUptoCardSaid : Prop := Claim7.holds Tryd.pinned (.plain (OpenSpec.upto eventComparesSpec)) eventComparesUptoCard

/-- THE SECOND FORM's CARD OF 'ciceronelaw02.EventBytes'. -/
def eventBytesUptoCard : Claim7 := { stood := { row := eventBytesUptoRow, standIns := [], harness := (true, "6339fa21d3d2ca347c79f4d80bdd21da56e3959dc73a4298b2d0b2799518bcd8"), looks := false }, kinds := [], alts := [], laidByText := true, laidKinds := [.data, .data, .data, .data, .data, .pinned], laidTests := true, laidLooks := .later }
def EventBytesUptoCardSaid : Prop := Claim7.holds Tryd.pinned (.plain (OpenSpec.upto eventBytesSpec)) eventBytesUptoCard

/-- THE SECOND FORM's CARD OF 'ciceronelaw02.EventDecodes'. -/
def eventDecodesUptoCard : Claim7 := { stood := { row := eventDecodesUptoRow, standIns := [], harness := (true, "6339fa21d3d2ca347c79f4d80bdd21da56e3959dc73a4298b2d0b2799518bcd8"), looks := false }, kinds := [], alts := [], laidByText := true, laidKinds := [.data, .data, .data, .data, .data, .pinned], laidTests := true, laidLooks := .later }
def EventDecodesUptoCardSaid : Prop := Claim7.holds Tryd.pinned (.plain (OpenSpec.upto eventDecodesSpec)) eventDecodesUptoCard

/-- THE SECOND FORM's CARD OF 'ciceronelaw02.EventRows'. -/
def eventRowsUptoCard : Claim7 := { stood := { row := eventRowsUptoRow, standIns := [], harness := (true, "6339fa21d3d2ca347c79f4d80bdd21da56e3959dc73a4298b2d0b2799518bcd8"), looks := false }, kinds := [], alts := [], laidByText := true, laidKinds := [.data, .data, .data, .data, .data, .pinned], laidTests := true, laidLooks := .later }
def EventRowsUptoCardSaid : Prop := Claim7.holds Tryd.pinned (.plain (OpenSpec.upto eventRowsSpec)) eventRowsUptoCard

/-- THE SECOND FORM's CARD OF 'ciceronelaw02.EventSorts'. -/
def eventSortsUptoCard : Claim7 := { stood := { row := eventSortsUptoRow, standIns := [], harness := (true, "6339fa21d3d2ca347c79f4d80bdd21da56e3959dc73a4298b2d0b2799518bcd8"), looks := false }, kinds := [], alts := [], laidByText := true, laidKinds := [.data, .data, .data, .data, .data, .pinned], laidTests := true, laidLooks := .later }
def EventSortsUptoCardSaid : Prop := Claim7.holds Tryd.pinned (.plain (OpenSpec.upto eventSortsSpec)) eventSortsUptoCard
end Rows
end Go.Proofs.YtihdeidaekheoaaDoor
