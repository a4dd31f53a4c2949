/-
  What is proved here: the given statement of the law EventParses, its tied card. No condition beyond the statement's own.
-/
import Derived.Test.YtihdeidaekheoaaDoorRowParses
namespace Go.Proofs.YtihdeidaekheoaaDoor
open Go.ChangeShapes Go.WideShapes Go.ChangeAt Go.RowKit

theorem parses_card_holds : Rows.EventParsesCardSaid :=
  Claim7.holds_tied_plain_at .later [] [.data, .data, .data, .data, .data, .pinned] true (true, "6339fa21d3d2ca347c79f4d80bdd21da56e3959dc73a4298b2d0b2799518bcd8") false parses_holds (fun _ h => by cases h) (by kernel_rfl) (fun _ h => by cases h) eventParses_row_tie rfl ⟨rfl, rfl⟩ (by kernel_rfl) rfl
    (fun f fn hf hfn => by
      obtain rfl : f = 6 := Option.some.inj ((show Tryd.prog.funcNamed "cicerone/ciceronelaw02.EventParses" = some 6 by kernel_rfl).symm.trans hf) |>.symm
      obtain rfl : fn = Tryd.f6 := (Option.some.inj (Tryd.func6.symm.trans hfn)).symm
      exact ⟨by kernel_rfl, fun j t ht => by
        rw [Tryd.params6] at ht
        have hm : t ∈ [9] := by simpa using Array.mem_of_getElem? ht
        have hall : ([9].all fun u => !Tryd.prog.wantsStandIn u) = true := by kernel_rfl
        exact (show Tryd.prog.wantsStandIn t = false by simpa using List.all_eq_true.1 hall t hm)⟩)
    (by kernel_rfl)
end Go.Proofs.YtihdeidaekheoaaDoor
