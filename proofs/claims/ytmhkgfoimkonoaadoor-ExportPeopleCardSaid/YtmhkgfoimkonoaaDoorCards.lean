/-
  DERIVED. GIVEN WITH THE SEED: THE CARDS: each row of YtmhkgfoimkonoaaDoorRows.lean that lists a variable, with what it lists TIED to the program's text (the seventh form; the later family's looks); each row that meets fmt, with fmt's text TOLD by the authors' own Lean function (tested against real Go, not proved from fmt's source: count such statements apart). THE CARD IS WHAT COUNTS. Prove the row's statement (the work); the ties are given (YtmhkgfoimkonoaaDoorTie.lean); close each card by the builder's one call (the guide's Derived/Test/ToyasCard.lean, 'card_holds'). Laid BY PROGRAM, IN A SANDBOX (cutbox-door.mjs). By AI agents, Wed Nov 11 2026. No macro, syntax, notation, axiom, sorry.
-/
import Derived.Test.YtmhkgfoimkonoaaDoorRows
import GoSem.ClaimSeven
namespace Go.Proofs.YtmhkgfoimkonoaaDoor
namespace Rows

/-- THE TIED CARD OF 'ciceronelaw02.EventSorts'. -/
def eventSortsCard : Claim7 := { stood := { row := eventSortsRow, standIns := [], harness := (true, "91cc242896fd3f68b48e266b6a5bae5fff1bf16c1b412b37357bb62b0bd4d478"), looks := false }, kinds := [], alts := [], laidByText := true, laidKinds := [.data, .data, .data, .data, .data, .pinned], laidTests := true, laidLooks := .later }
def EventSortsCardSaid : Prop := Claim7.holds Tryd.pinned (.plain (OpenSpec.ofChange eventSortsSpec)) eventSortsCard

/-- THE TIED CARD OF 'ciceronelaw42.ExportBack'. -/
def exportBackCard : Claim7 := { stood := { row := exportBackRow, standIns := [], harness := (true, "91cc242896fd3f68b48e266b6a5bae5fff1bf16c1b412b37357bb62b0bd4d478"), looks := false }, kinds := [], alts := [], laidByText := true, laidKinds := [.data, .data, .data, .data, .data, .pinned], laidTests := true, laidLooks := .later }
def ExportBackCardSaid : Prop := Claim7.holds Tryd.pinned (.plain (OpenSpec.ofChange exportBackSpec)) exportBackCard

/-- THE TIED CARD OF 'ciceronelaw42.ExportImports'. -/
def exportImportsCard : Claim7 := { stood := { row := exportImportsRow, standIns := [], harness := (true, "91cc242896fd3f68b48e266b6a5bae5fff1bf16c1b412b37357bb62b0bd4d478"), looks := false }, kinds := [], alts := [], laidByText := true, laidKinds := [.data, .data, .data, .data, .data, .pinned], laidTests := true, laidLooks := .later }
def ExportImportsCardSaid : Prop := Claim7.holds Tryd.pinned (.plain (OpenSpec.ofChange exportImportsSpec)) exportImportsCard

/-- THE TIED CARD OF 'ciceronelaw42.ExportAll'. -/
def exportAllCard : Claim7 := { stood := { row := exportAllRow, standIns := [], harness := (true, "91cc242896fd3f68b48e266b6a5bae5fff1bf16c1b412b37357bb62b0bd4d478"), looks := false }, kinds := [], alts := [], laidByText := true, laidKinds := [.data, .data, .data, .data, .data, .pinned], laidTests := true, laidLooks := .later }
def ExportAllCardSaid : Prop := Claim7.holds Tryd.pinned (.plain (OpenSpec.ofChange exportAllSpec)) exportAllCard

/-- THE TIED CARD OF 'ciceronelaw42.ExportMerges'. -/
def exportMergesCard : Claim7 := { stood := { row := exportMergesRow, standIns := [], harness := (true, "91cc242896fd3f68b48e266b6a5bae5fff1bf16c1b412b37357bb62b0bd4d478"), looks := false }, kinds := [], alts := [], laidByText := true, laidKinds := [.data, .data, .data, .data, .data, .pinned], laidTests := true, laidLooks := .later }
def ExportMergesCardSaid : Prop := Claim7.holds Tryd.pinned (.plain (OpenSpec.ofChange exportMergesSpec)) exportMergesCard

/-- THE TIED CARD OF 'ciceronelaw42.ExportSame'. -/
def exportSameCard : Claim7 := { stood := { row := exportSameRow, standIns := [], harness := (true, "91cc242896fd3f68b48e266b6a5bae5fff1bf16c1b412b37357bb62b0bd4d478"), looks := false }, kinds := [], alts := [], laidByText := true, laidKinds := [.data, .data, .data, .data, .data, .pinned], laidTests := true, laidLooks := .later }
def ExportSameCardSaid : Prop := Claim7.holds Tryd.pinned (.plain (OpenSpec.ofChange exportSameSpec)) exportSameCard

/-- THE TIED CARD OF 'ciceronelaw42.ExportPeople'. -/
def exportPeopleCard : Claim7 := { stood := { row := exportPeopleRow, standIns := [], harness := (true, "91cc242896fd3f68b48e266b6a5bae5fff1bf16c1b412b37357bb62b0bd4d478"), looks := false }, kinds := [], alts := [], laidByText := true, laidKinds := [.data, .data, .data, .data, .data, .pinned], laidTests := true, laidLooks := .later }
def ExportPeopleCardSaid : Prop := Claim7.holds Tryd.pinned (.plain (OpenSpec.ofChange exportPeopleSpec)) exportPeopleCard

/-- THE SECOND FORM's CARD OF 'ciceronelaw02.EventSorts'. -/
def eventSortsUptoCard : Claim7 := { stood := { row := eventSortsUptoRow, standIns := [], harness := (true, "91cc242896fd3f68b48e266b6a5bae5fff1bf16c1b412b37357bb62b0bd4d478"), looks := false }, kinds := [], alts := [], laidByText := true, laidKinds := [.data, .data, .data, .data, .data, .pinned], laidTests := true, laidLooks := .later }
def EventSortsUptoCardSaid : Prop := Claim7.holds Tryd.pinned (.plain (OpenSpec.upto eventSortsSpec)) eventSortsUptoCard

/-- THE SECOND FORM's CARD OF 'ciceronelaw42.ExportBack'. -/
def exportBackUptoCard : Claim7 := { stood := { row := exportBackUptoRow, standIns := [], harness := (true, "91cc242896fd3f68b48e266b6a5bae5fff1bf16c1b412b37357bb62b0bd4d478"), looks := false }, kinds := [], alts := [], laidByText := true, laidKinds := [.data, .data, .data, .data, .data, .pinned], laidTests := true, laidLooks := .later }
def ExportBackUptoCardSaid : Prop := Claim7.holds Tryd.pinned (.plain (OpenSpec.upto exportBackSpec)) exportBackUptoCard

/-- THE SECOND FORM's CARD OF 'ciceronelaw42.ExportImports'. -/
def exportImportsUptoCard : Claim7 := { stood := { row := exportImportsUptoRow, standIns := [], harness := (true, "91cc242896fd3f68b48e266b6a5bae5fff1bf16c1b412b37357bb62b0bd4d478"), looks := false }, kinds := [], alts := [], laidByText := true, laidKinds := [.data, .data, .data, .data, .data, .pinned], laidTests := true, laidLooks := .later }
def ExportImportsUptoCardSaid : Prop := Claim7.holds Tryd.pinned (.plain (OpenSpec.upto exportImportsSpec)) exportImportsUptoCard

/-- THE SECOND FORM's CARD OF 'ciceronelaw42.ExportAll'. -/
def exportAllUptoCard : Claim7 := { stood := { row := exportAllUptoRow, standIns := [], harness := (true, "91cc242896fd3f68b48e266b6a5bae5fff1bf16c1b412b37357bb62b0bd4d478"), looks := false }, kinds := [], alts := [], laidByText := true, laidKinds := [.data, .data, .data, .data, .data, .pinned], laidTests := true, laidLooks := .later }
def ExportAllUptoCardSaid : Prop := Claim7.holds Tryd.pinned (.plain (OpenSpec.upto exportAllSpec)) exportAllUptoCard

/-- THE SECOND FORM's CARD OF 'ciceronelaw42.ExportMerges'. -/
def exportMergesUptoCard : Claim7 := { stood := { row := exportMergesUptoRow, standIns := [], harness := (true, "91cc242896fd3f68b48e266b6a5bae5fff1bf16c1b412b37357bb62b0bd4d478"), looks := false }, kinds := [], alts := [], laidByText := true, laidKinds := [.data, .data, .data, .data, .data, .pinned], laidTests := true, laidLooks := .later }
def ExportMergesUptoCardSaid : Prop := Claim7.holds Tryd.pinned (.plain (OpenSpec.upto exportMergesSpec)) exportMergesUptoCard

/-- THE SECOND FORM's CARD OF 'ciceronelaw42.ExportSame'. -/
def exportSameUptoCard : Claim7 := { stood := { row := exportSameUptoRow, standIns := [], harness := (true, "91cc242896fd3f68b48e266b6a5bae5fff1bf16c1b412b37357bb62b0bd4d478"), looks := false }, kinds := [], alts := [], laidByText := true, laidKinds := [.data, .data, .data, .data, .data, .pinned], laidTests := true, laidLooks := .later }
def ExportSameUptoCardSaid : Prop := Claim7.holds Tryd.pinned (.plain (OpenSpec.upto exportSameSpec)) exportSameUptoCard

/-- THE SECOND FORM's CARD OF 'ciceronelaw42.ExportPeople'. -/
def exportPeopleUptoCard : Claim7 := { stood := { row := exportPeopleUptoRow, standIns := [], harness := (true, "91cc242896fd3f68b48e266b6a5bae5fff1bf16c1b412b37357bb62b0bd4d478"), looks := false }, kinds := [], alts := [], laidByText := true, laidKinds := [.data, .data, .data, .data, .data, .pinned], laidTests := true, laidLooks := .later }
def ExportPeopleUptoCardSaid : Prop := Claim7.holds Tryd.pinned (.plain (OpenSpec.upto exportPeopleSpec)) exportPeopleUptoCard
end Rows
end Go.Proofs.YtmhkgfoimkonoaaDoor
