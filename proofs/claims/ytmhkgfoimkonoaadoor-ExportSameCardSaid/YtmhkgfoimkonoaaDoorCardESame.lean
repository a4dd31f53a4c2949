/-
  What is proved here: the given statement of the law ExportSame, its tied card. No condition beyond the statement's own.
-/
import Derived.Test.YtmhkgfoimkonoaaDoorRowESame
namespace Go.Proofs.YtmhkgfoimkonoaaDoor
open Go.ChangeShapes Go.WideShapes Go.ChangeAt Go.RowKit

theorem esame_card_holds : Rows.ExportSameCardSaid :=
  Claim7.holds_tied_plain_at .later [] [.data, .data, .data, .data, .data, .pinned] true (true, "91cc242896fd3f68b48e266b6a5bae5fff1bf16c1b412b37357bb62b0bd4d478") false esame_holds (fun _ h => by cases h) (by kernel_rfl) (fun _ h => by cases h) exportSame_row_tie rfl ⟨rfl, rfl⟩ (by kernel_rfl) rfl
    (fun f fn hf hfn => by
      obtain rfl : f = 8 := Option.some.inj ((show Tryd.prog.funcNamed "cicerone/ciceronelaw42.ExportSame" = some 8 by kernel_rfl).symm.trans hf) |>.symm
      obtain rfl : fn = Tryd.f8 := (Option.some.inj (Tryd.func8.symm.trans hfn)).symm
      exact ⟨by kernel_rfl, fun j t ht => by
        rw [Tryd.params8] at ht
        have hm : t ∈ [22, 3, 3] := by simpa using Array.mem_of_getElem? ht
        have hall : ([22, 3, 3].all fun u => !Tryd.prog.wantsStandIn u) = true := by kernel_rfl
        exact (show Tryd.prog.wantsStandIn t = false by simpa using List.all_eq_true.1 hall t hm)⟩)
    (by kernel_rfl)
end Go.Proofs.YtmhkgfoimkonoaaDoor
