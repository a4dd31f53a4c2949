/-
  What is proved here: the given statement of the law AuditTorn, its tied card. No condition beyond the statement's own.
-/
import Derived.Test.YtkfcbafmefdhmaaDoorRowTorn
namespace Go.Proofs.YtkfcbafmefdhmaaDoor
open Go.ChangeShapes Go.WideShapes Go.ChangeAt Go.RowKit

theorem torn_card_holds : Rows.AuditTornCardSaid :=
  Claim7.holds_tied_plain_at .later [] [.data, .data, .data, .data, .sentinel, .sentinel, .pinned] true (true, "6cafc42263ce92d38f047d153de83214894c10e72b59732ddec9360996a65913") true torn_holds (fun _ h => by cases h) (by kernel_rfl) (fun _ h => by cases h) auditTorn_row_tie rfl ⟨rfl, rfl⟩ (by kernel_rfl) rfl
    (fun f fn hf hfn => by
      obtain rfl : f = 6 := Option.some.inj ((show Tryd.prog.funcNamed "cicerone/ciceronelaw43.AuditTorn" = some 6 by kernel_rfl).symm.trans hf) |>.symm
      obtain rfl : fn = Tryd.f6 := (Option.some.inj (Tryd.func6.symm.trans hfn)).symm
      exact ⟨by kernel_rfl, fun j t ht => by
        rw [Tryd.params6] at ht
        have hm : t ∈ [22, 23, 3] := by simpa using Array.mem_of_getElem? ht
        have hall : ([22, 23, 3].all fun u => !Tryd.prog.wantsStandIn u) = true := by kernel_rfl
        exact (show Tryd.prog.wantsStandIn t = false by simpa using List.all_eq_true.1 hall t hm)⟩)
    (by kernel_rfl)
end Go.Proofs.YtkfcbafmefdhmaaDoor
