/-
  What is proved here: the given statement of the law EventFormats, its tied card. No condition beyond the statement's own.
-/
import Derived.Test.YtihdeidaekheoaaDoorRowFormats
namespace Go.Proofs.YtihdeidaekheoaaDoor
open Go.ChangeShapes Go.WideShapes Go.ChangeAt Go.RowKit

theorem formats_card_holds : Rows.EventFormatsCardSaid :=
  Claim7.holds_tied_plain_at .later [] [.data, .data, .data, .data, .data, .pinned] true (true, "6339fa21d3d2ca347c79f4d80bdd21da56e3959dc73a4298b2d0b2799518bcd8") false formats_holds (fun _ h => by cases h) (by kernel_rfl) (fun _ h => by cases h) eventFormats_row_tie rfl ⟨rfl, rfl⟩ (by kernel_rfl) rfl
    (fun f fn hf hfn => by
      obtain rfl : f = 5 := Option.some.inj ((show Tryd.prog.funcNamed "cicerone/ciceronelaw02.EventFormats" = some 5 by kernel_rfl).symm.trans hf) |>.symm
      obtain rfl : fn = Tryd.f5 := (Option.some.inj (Tryd.func5.symm.trans hfn)).symm
      exact ⟨by kernel_rfl, fun j t ht => by
        rw [Tryd.params5] at ht
        have hm : t ∈ [24] := by simpa using Array.mem_of_getElem? ht
        have hall : ([24].all fun u => !Tryd.prog.wantsStandIn u) = true := by kernel_rfl
        exact (show Tryd.prog.wantsStandIn t = false by simpa using List.all_eq_true.1 hall t hm)⟩)
    (by kernel_rfl)
end Go.Proofs.YtihdeidaekheoaaDoor
