/-
  What is proved here: the given statement of the law AuditGoesOn, its tied card. No condition beyond the statement's own.
-/
import Derived.Test.YtkfcbafmefdhmaaDoorRowGoesOn
namespace Go.Proofs.YtkfcbafmefdhmaaDoor
open Go.ChangeShapes Go.WideShapes Go.ChangeAt Go.RowKit

theorem goeson_card_holds : Rows.AuditGoesOnCardSaid :=
  Claim7.holds_tied_plain_at .later [] [.data, .data, .data, .data, .sentinel, .sentinel, .pinned] true (true, "6cafc42263ce92d38f047d153de83214894c10e72b59732ddec9360996a65913") true goeson_holds (fun _ h => by cases h) (by kernel_rfl) (fun _ h => by cases h) auditGoesOn_row_tie rfl ⟨rfl, rfl⟩ (by kernel_rfl) rfl
    (fun f fn hf hfn => by
      obtain rfl : f = 7 := Option.some.inj ((show Tryd.prog.funcNamed "cicerone/ciceronelaw43.AuditGoesOn" = some 7 by kernel_rfl).symm.trans hf) |>.symm
      obtain rfl : fn = Tryd.f7 := (Option.some.inj (Tryd.func7.symm.trans hfn)).symm
      exact ⟨by kernel_rfl, fun j t ht => by
        rw [Tryd.params7] at ht
        have hm : t ∈ [22, 23, 3] := by simpa using Array.mem_of_getElem? ht
        have hall : ([22, 23, 3].all fun u => !Tryd.prog.wantsStandIn u) = true := by kernel_rfl
        exact (show Tryd.prog.wantsStandIn t = false by simpa using List.all_eq_true.1 hall t hm)⟩)
    (by kernel_rfl)
end Go.Proofs.YtkfcbafmefdhmaaDoor
