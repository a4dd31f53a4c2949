/-
  What is proved here: the given statement of the law TrialRecounts, its tied card. No condition beyond the statement's own.
-/
import Derived.Test.YtdkgphambjnbiaaDoorRowRecounts
namespace Go.Proofs.YtdkgphambjnbiaaDoor
open Go.ChangeShapes Go.WideShapes Go.ChangeAt Go.RowKit

theorem recounts_card_holds : Rows.TrialRecountsCardSaid :=
  Claim7.holds_tied_plain_at .later [] [.data, .pinned] true (true, "24403751e9f520de79527f0f6f1182a632d4a62d97c4dad00730eee2236d53ee") false recounts_holds (fun _ h => by cases h) (by kernel_rfl) (fun _ h => by cases h) trialRecounts_row_tie rfl ⟨rfl, rfl⟩ (by kernel_rfl) rfl
    (fun f fn hf hfn => by
      obtain rfl : f = 8 := Option.some.inj ((show Tryd.prog.funcNamed "cicerone/ciceronelaw27.TrialRecounts" = some 8 by kernel_rfl).symm.trans hf) |>.symm
      obtain rfl : fn = Tryd.f8 := (Option.some.inj (Tryd.func8.symm.trans hfn)).symm
      exact ⟨by kernel_rfl, fun j t ht => by
        rw [Tryd.params8] at ht
        have hm : t ∈ [24, 34, 35, 9] := by simpa using Array.mem_of_getElem? ht
        have hall : ([24, 34, 35, 9].all fun u => !Tryd.prog.wantsStandIn u) = true := by kernel_rfl
        exact (show Tryd.prog.wantsStandIn t = false by simpa using List.all_eq_true.1 hall t hm)⟩)
    (by kernel_rfl)
end Go.Proofs.YtdkgphambjnbiaaDoor
