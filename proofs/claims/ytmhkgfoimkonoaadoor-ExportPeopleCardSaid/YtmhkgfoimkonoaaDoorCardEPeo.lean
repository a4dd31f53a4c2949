/-
  What is proved here: the given statement of the law ExportPeople, its tied card. No condition beyond the statement's own.
-/
import Derived.Test.YtmhkgfoimkonoaaDoorRowEPeo
namespace Go.Proofs.YtmhkgfoimkonoaaDoor
open Go.ChangeShapes Go.WideShapes Go.ChangeAt Go.RowKit

theorem epeo_card_holds : Rows.ExportPeopleCardSaid :=
  Claim7.holds_tied_plain_at .later [] [.data, .data, .data, .data, .data, .pinned] true (true, "91cc242896fd3f68b48e266b6a5bae5fff1bf16c1b412b37357bb62b0bd4d478") false epeo_holds (fun _ h => by cases h) (by kernel_rfl) (fun _ h => by cases h) exportPeople_row_tie rfl ⟨rfl, rfl⟩ (by kernel_rfl) rfl
    (fun f fn hf hfn => by
      obtain rfl : f = 9 := Option.some.inj ((show Tryd.prog.funcNamed "cicerone/ciceronelaw42.ExportPeople" = some 9 by kernel_rfl).symm.trans hf) |>.symm
      obtain rfl : fn = Tryd.f9 := (Option.some.inj (Tryd.func9.symm.trans hfn)).symm
      exact ⟨by kernel_rfl, fun j t ht => by
        rw [Tryd.params9] at ht
        have hm : t ∈ [22] := by simpa using Array.mem_of_getElem? ht
        have hall : ([22].all fun u => !Tryd.prog.wantsStandIn u) = true := by kernel_rfl
        exact (show Tryd.prog.wantsStandIn t = false by simpa using List.all_eq_true.1 hall t hm)⟩)
    (by kernel_rfl)
end Go.Proofs.YtmhkgfoimkonoaaDoor
