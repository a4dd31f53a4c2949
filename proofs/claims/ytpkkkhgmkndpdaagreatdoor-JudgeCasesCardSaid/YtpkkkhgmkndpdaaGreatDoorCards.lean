/-
  DERIVED. GIVEN WITH THE SEED: THE CARDS: each row of YtpkkkhgmkndpdaaGreatDoorRows.lean that lists a variable, with what it lists TIED to the program's text (the seventh form; the later family's looks); each row that meets fmt, with fmt's text TOLD by the authors' own Lean function (tested against real Go, not proved from fmt's source: count such statements apart). THE CARD IS WHAT COUNTS. Prove the row's statement (the work); the ties are given (YtpkkkhgmkndpdaaGreatDoorTie.lean); close each card by the builder's one call (the guide's Derived/Test/ToyasCard.lean, 'card_holds'). Laid BY PROGRAM, IN A SANDBOX (cutbox-door.mjs). By AI agents, Wed Nov 11 2026. No macro, syntax, notation, axiom, sorry.
-/
import Derived.Test.YtpkkkhgmkndpdaaGreatDoorRows
import GoSem.ClaimSeven
namespace Go.Proofs.YtpkkkhgmkndpdaaGreatDoor
namespace Rows

/-- THE TIED CARD OF 'ciceronelaw35.JudgeCases'. -/
def judgeCasesCard : Claim7 := { stood := { row := judgeCasesRow, standIns := [], harness := (true, "00c85f6148adc5714b022fd04f9de033c7475d0c3c9e99ca9f4ae5590e195f91"), looks := false }, kinds := [], alts := [], laidByText := true, laidKinds := [.data, .data, .data, .data, .data, .pinned], laidTests := true, laidLooks := .later }
def JudgeCasesCardSaid : Prop := Claim7.holds Tryz.pinned (.plain (OpenSpec.ofChange judgeCasesSpec)) judgeCasesCard

/-- THE SECOND FORM's CARD OF 'ciceronelaw35.JudgeCases'. -/
def judgeCasesUptoCard : Claim7 := { stood := { row := judgeCasesUptoRow, standIns := [], harness := (true, "00c85f6148adc5714b022fd04f9de033c7475d0c3c9e99ca9f4ae5590e195f91"), looks := false }, kinds := [], alts := [], laidByText := true, laidKinds := [.data, .data, .data, .data, .data, .pinned], laidTests := true, laidLooks := .later }
def JudgeCasesUptoCardSaid : Prop := Claim7.holds Tryz.pinned (.plain (OpenSpec.upto judgeCasesSpec)) judgeCasesUptoCard
end Rows
end Go.Proofs.YtpkkkhgmkndpdaaGreatDoor
