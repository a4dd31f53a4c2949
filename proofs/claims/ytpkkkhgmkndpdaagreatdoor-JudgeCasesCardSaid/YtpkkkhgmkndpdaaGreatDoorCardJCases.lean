/-
  What is proved here: the given statement of the law JudgeCases, its tied card. No condition beyond the statement's own.
-/
import Derived.Test.YtpkkkhgmkndpdaaGreatDoorRowJCases
namespace Go.Proofs.YtpkkkhgmkndpdaaGreatDoor
open Go.ChangeShapes Go.WideShapes Go.ChangeAt Go.RowKit

theorem jcases_card_holds : Rows.JudgeCasesCardSaid :=
  Claim7.holds_tied_plain_at .later [] [.data, .data, .data, .data, .data, .pinned] true (true, "00c85f6148adc5714b022fd04f9de033c7475d0c3c9e99ca9f4ae5590e195f91") false jcases_holds (fun _ h => by cases h) (by kernel_rfl) (fun _ h => by cases h) judgeCases_row_tie rfl ⟨rfl, rfl⟩ (by kernel_rfl) rfl
    (fun f fn hf hfn => by
      obtain rfl : f = 3 := Option.some.inj ((show Tryz.prog.funcNamed "cicerone/ciceronelaw35.JudgeCases" = some 3 by kernel_rfl).symm.trans hf) |>.symm
      obtain rfl : fn = Tryz.f3 := (Option.some.inj (Tryz.func3.symm.trans hfn)).symm
      exact ⟨by kernel_rfl, fun j t ht => by
        rw [Tryz.params3] at ht
        have hm : t ∈ [22] := by simpa using Array.mem_of_getElem? ht
        have hall : ([22].all fun u => !Tryz.prog.wantsStandIn u) = true := by kernel_rfl
        exact (show Tryz.prog.wantsStandIn t = false by simpa using List.all_eq_true.1 hall t hm)⟩)
    (by kernel_rfl)
end Go.Proofs.YtpkkkhgmkndpdaaGreatDoor
