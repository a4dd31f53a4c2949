/-
  DERIVED. GIVEN WITH THE SEED: THE CARDS: each row of YtkfcbafmefdhmaaDoorRows.lean that lists a variable, with what it lists TIED to the program's text (the seventh form; the later family's looks); each row that meets fmt, with fmt's text TOLD by the authors' own Lean function (tested against real Go, not proved from fmt's source: count such statements apart). THE CARD IS WHAT COUNTS. Prove the row's statement (the work); the ties are given (YtkfcbafmefdhmaaDoorTie.lean); close each card by the builder's one call (the guide's Derived/Test/ToyasCard.lean, 'card_holds'). Laid BY PROGRAM, IN A SANDBOX (cutbox-door.mjs). By AI agents, Wed Nov 11 2026. No macro, syntax, notation, axiom, sorry.
-/
import Derived.Test.YtkfcbafmefdhmaaDoorRows
import GoSem.ClaimSeven
namespace Go.Proofs.YtkfcbafmefdhmaaDoor
namespace Rows

/-- THE TIED CARD OF 'ciceronelaw43.AuditAdds'. -/
def auditAddsCard : Claim7 := { stood := { row := auditAddsRow, standIns := [], harness := (true, "6cafc42263ce92d38f047d153de83214894c10e72b59732ddec9360996a65913"), looks := true }, kinds := [], alts := [], laidByText := true, laidKinds := [.data, .data, .data], laidTests := true, laidLooks := .later }
def AuditAddsCardSaid : Prop := Claim7.holds Tryd.pinned (.plain (OpenSpec.ofChange auditAddsSpec)) auditAddsCard

/-- THE TIED CARD OF 'ciceronelaw43.AuditChecks'. -/
def auditChecksCard : Claim7 := { stood := { row := auditChecksRow, standIns := [], harness := (true, "6cafc42263ce92d38f047d153de83214894c10e72b59732ddec9360996a65913"), looks := true }, kinds := [], alts := [], laidByText := true, laidKinds := [.data, .data, .data], laidTests := true, laidLooks := .later }
def AuditChecksCardSaid : Prop := Claim7.holds Tryd.pinned (.plain (OpenSpec.ofChange auditChecksSpec)) auditChecksCard

/-- THE TIED CARD OF 'ciceronelaw43.AuditDecodes'. -/
def auditDecodesCard : Claim7 := { stood := { row := auditDecodesRow, standIns := [], harness := (true, "6cafc42263ce92d38f047d153de83214894c10e72b59732ddec9360996a65913"), looks := true }, kinds := [], alts := [], laidByText := true, laidKinds := [.data, .data, .data, .data, .sentinel, .sentinel, .pinned], laidTests := true, laidLooks := .later }
def AuditDecodesCardSaid : Prop := Claim7.holds Tryd.pinned (.plain (OpenSpec.ofChange auditDecodesSpec)) auditDecodesCard

/-- THE TIED CARD OF 'ciceronelaw43.AuditTorn'. -/
def auditTornCard : Claim7 := { stood := { row := auditTornRow, standIns := [], harness := (true, "6cafc42263ce92d38f047d153de83214894c10e72b59732ddec9360996a65913"), looks := true }, kinds := [], alts := [], laidByText := true, laidKinds := [.data, .data, .data, .data, .sentinel, .sentinel, .pinned], laidTests := true, laidLooks := .later }
def AuditTornCardSaid : Prop := Claim7.holds Tryd.pinned (.plain (OpenSpec.ofChange auditTornSpec)) auditTornCard

/-- THE TIED CARD OF 'ciceronelaw43.AuditGoesOn'. -/
def auditGoesOnCard : Claim7 := { stood := { row := auditGoesOnRow, standIns := [], harness := (true, "6cafc42263ce92d38f047d153de83214894c10e72b59732ddec9360996a65913"), looks := true }, kinds := [], alts := [], laidByText := true, laidKinds := [.data, .data, .data, .data, .sentinel, .sentinel, .pinned], laidTests := true, laidLooks := .later }
def AuditGoesOnCardSaid : Prop := Claim7.holds Tryd.pinned (.plain (OpenSpec.ofChange auditGoesOnSpec)) auditGoesOnCard

/-- THE SECOND FORM's CARD OF 'ciceronelaw43.AuditAdds'. -/
def auditAddsUptoCard : Claim7 := { stood := { row := auditAddsUptoRow, standIns := [], harness := (true, "6cafc42263ce92d38f047d153de83214894c10e72b59732ddec9360996a65913"), looks := true }, kinds := [], alts := [], laidByText := true, laidKinds := [.data, .data, .data], laidTests := true, laidLooks := .later }
def AuditAddsUptoCardSaid : Prop := Claim7.holds Tryd.pinned (.plain (OpenSpec.upto auditAddsSpec)) auditAddsUptoCard

/-- THE SECOND FORM's CARD OF 'ciceronelaw43.AuditChecks'. -/
def auditChecksUptoCard : Claim7 := { stood := { row := auditChecksUptoRow, standIns := [], harness := (true, "6cafc42263ce92d38f047d153de83214894c10e72b59732ddec9360996a65913"), looks := true }, kinds := [], alts := [], laidByText := true, laidKinds := [.data, .data, .data], laidTests := true, laidLooks := .later }
def AuditChecksUptoCardSaid : Prop := Claim7.holds Tryd.pinned (.plain (OpenSpec.upto auditChecksSpec)) auditChecksUptoCard

/-- THE SECOND FORM's CARD OF 'ciceronelaw43.AuditDecodes'. -/
def auditDecodesUptoCard : Claim7 := { stood := { row := auditDecodesUptoRow, standIns := [], harness := (true, "6cafc42263ce92d38f047d153de83214894c10e72b59732ddec9360996a65913"), looks := true }, kinds := [], alts := [], laidByText := true, laidKinds := [.data, .data, .data, .data, .sentinel, .sentinel, .pinned], laidTests := true, laidLooks := .later }
def AuditDecodesUptoCardSaid : Prop := Claim7.holds Tryd.pinned (.plain (OpenSpec.upto auditDecodesSpec)) auditDecodesUptoCard

/-- THE SECOND FORM's CARD OF 'ciceronelaw43.AuditTorn'. -/
def auditTornUptoCard : Claim7 := { stood := { row := auditTornUptoRow, standIns := [], harness := (true, "6cafc42263ce92d38f047d153de83214894c10e72b59732ddec9360996a65913"), looks := true }, kinds := [], alts := [], laidByText := true, laidKinds := [.data, .data, .data, .data, .sentinel, .sentinel, .pinned], laidTests := true, laidLooks := .later }
def AuditTornUptoCardSaid : Prop := Claim7.holds Tryd.pinned (.plain (OpenSpec.upto auditTornSpec)) auditTornUptoCard

/-- THE SECOND FORM's CARD OF 'ciceronelaw43.AuditGoesOn'. -/
def auditGoesOnUptoCard : Claim7 := { stood := { row := auditGoesOnUptoRow, standIns := [], harness := (true, "6cafc42263ce92d38f047d153de83214894c10e72b59732ddec9360996a65913"), looks := true }, kinds := [], alts := [], laidByText := true, laidKinds := [.data, .data, .data, .data, .sentinel, .sentinel, .pinned], laidTests := true, laidLooks := .later }
def AuditGoesOnUptoCardSaid : Prop := Claim7.holds Tryd.pinned (.plain (OpenSpec.upto auditGoesOnSpec)) auditGoesOnUptoCard
end Rows
end Go.Proofs.YtkfcbafmefdhmaaDoor
