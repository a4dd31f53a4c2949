/-
  What is proved here: the given statement of the law TrialSums, its tied card. No condition beyond the statement's own.
-/
import Derived.Test.YtdkgphambjnbiaaDoorRowSums
namespace Go.Proofs.YtdkgphambjnbiaaDoor
open Go.ChangeShapes Go.WideShapes Go.ChangeAt Go.RowKit

theorem sums_card_holds : Rows.TrialSumsCardSaid :=
  Claim7.holds_tied_plain_at .later [] [.data, .pinned] true (true, "24403751e9f520de79527f0f6f1182a632d4a62d97c4dad00730eee2236d53ee") false sums_holds (fun _ h => by cases h) (by kernel_rfl) (fun _ h => by cases h) trialSums_row_tie rfl ⟨rfl, rfl⟩ (by kernel_rfl) rfl
    (fun f fn hf hfn => by
      obtain rfl : f = 7 := Option.some.inj ((show Tryd.prog.funcNamed "cicerone/ciceronelaw27.TrialSums" = some 7 by kernel_rfl).symm.trans hf) |>.symm
      obtain rfl : fn = Tryd.f7 := (Option.some.inj (Tryd.func7.symm.trans hfn)).symm
      exact ⟨by kernel_rfl, fun j t ht => by
        rw [Tryd.params7] at ht
        have hm : t ∈ [24, 34, 35] := by simpa using Array.mem_of_getElem? ht
        have hall : ([24, 34, 35].all fun u => !Tryd.prog.wantsStandIn u) = true := by kernel_rfl
        exact (show Tryd.prog.wantsStandIn t = false by simpa using List.all_eq_true.1 hall t hm)⟩)
    (by kernel_rfl)
end Go.Proofs.YtdkgphambjnbiaaDoor
