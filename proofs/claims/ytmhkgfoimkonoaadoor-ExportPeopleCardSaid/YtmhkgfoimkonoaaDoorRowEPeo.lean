/-
  What is proved here: the given statement of the law ExportPeople: its row. No condition beyond the statement's own.
-/
import Derived.Test.YtmhkgfoimkonoaaDoorLawEPeo
import Derived.Test.YtmhkgfoimkonoaaDoorEvVars
import Derived.Test.YtmhkgfoimkonoaaDoorRows
import Derived.Test.YtmhkgfoimkonoaaDoorCards
import Derived.Test.YtmhkgfoimkonoaaDoorTie
import Derived.ProofKit
import Derived.OpenShut
import Derived.LaidMore
import Derived.Lay
import Derived.Carry
import Derived.SevenTiedAt
import Derived.Stop.Joined
namespace Go.Proofs.YtmhkgfoimkonoaaDoor
open Go.ChangeShapes Go.WideShapes Go.ChangeAt Go.RowKit

theorem own_knob : ownKnob Tryd.prog.godebug = none := by kernel_rfl
theorem laid_out : laidOutB Tryd.prog = true := by kernel_rfl

set_option maxRecDepth 100000 in
theorem epeo_lifted (os : Os) (started : os.Started) (H : Type) (enc : TypeId × Value → H) :
    ReturnsInHanded {} Tryd.checked os 9 .any (fun w args => (Rows.exportPeopleSpec.pre enc Tryd.prog Tryd.f9 Rows.exportPeopleRow.domain false w args ∧ laidMetH Tryd.prog Rows.exportPeopleRow.laid w) ∧ sizedMet enc Tryd.prog Tryd.f9 (OpenSpec.ofChange Rows.exportPeopleSpec) false w args)
      (Rows.exportPeopleSpec.post enc Tryd.prog Tryd.f9 false true false false) := by
  refine handed_and_shaped (C := Tryd.checked) (X := fun w _ => laidMetH Tryd.prog Rows.exportPeopleRow.laid w) (fun _ _ _ hh h => h.of_heap hh) own_knob started (by kernel_rfl) Tryd.func9
    (ChangeSpec.witness_shaped (enc := enc) (C := Tryd.checked) (os := os) (X := fun w _ => laidMetH Tryd.prog Rows.exportPeopleRow.laid w) false (World.laidAll Tryd.prog os Rows.exportPeopleRow.laid) #[.slice none 0 0] 8 (World.laidAll_os _ _ _)
      (World.shaped_of_ZipB (by kernel_rfl) (by kernel_rfl)) (by kernel_rfl) (by kernel_rfl) (by kernel_rfl)
      (by rw [MakeChecks.laidMetH_plain _ _ _ (by kernel_rfl)]; exact laidMet_laidAll _ (by kernel_rfl) (by kernel_rfl))) ?_
  intro W base args ds gs before hval0 hW hsz hL hSh
  have hval : ∀ (j : Nat) t v, Tryd.f9.params[j]? = some t → args[j]? = some v → Value.okWide Tryd.prog W .any base t v := hval0
  have hW' := hW
  obtain ⟨p, q, hA0, hV, rfl, _, _⟩ := hW
  have hA : DataW.TrodAll enc Tryd.prog W 0 (fun _ => true) true Tryd.f9.params.toList args.toList ds p := hA0
  rw [Tryd.params9] at hA hval
  obtain ⟨v0, d0, rfl, rfl, h0⟩ := trodAll_one hA
  obtain ⟨rfl, rfl⟩ := trodVars_none hV
  have hvars := vars_of_laid hL hSh
  rw [Tryd.params9] at hsz
  have hm0 : Lim Tryd.prog 22 d0 := lim_each hsz (j := 0) rfl rfl
  have h0k := h0
  obtain ⟨Al, nl, cl, rfl⟩ := okWide_slice Tryd.underlying22 (hval 0 22 v0 rfl rfl)
  obtain ⟨f0, hf0⟩ := h0
  clear hA0 hval0
  simp only [List.append_nil] at hW'
  obtain ⟨A', n', c', ll, hce0, hncl, _, hnl, hsl, hinl⟩ := open_evs hf0 hm0
  simp [Value.cells] at hce0
  obtain ⟨rfl, rfl, rfl⟩ := hce0
  have hlt : ∀ x ∈ p, x.block < W.heap.size := fun x hx => by simpa using hW'.lt x (by simpa using hx)
  refine (law_EPeo Al nl cl ll _ W hsl (by omega) (fun t ht => (hinl t ht).wf) hvars).mono fun e W' ⟨he, hx⟩ => ?_
  subst he
  refine ⟨_, rfl, _, _, _, [], _, [], hW', trodAll_mk1 (shut_bool Tryd.underlying4 _), trodAll_mk1 (Below.trod laid_out (by kernel_rfl) (of_decide_eq_true (by kernel_rfl)) h0k hx.below hlt), rfl, hx.below.frame _, fun h => by cases h⟩

theorem epeo_holds : Rows.ExportPeopleSaid :=
  OpenClaim.holds_of_wide 9 Tryd.f9 rfl rfl rfl rfl rfl rfl rfl ⟨rfl, rfl, rfl, rfl, rfl⟩ rfl rfl rfl rfl rfl (by kernel_rfl) Tryd.func9 (by kernel_rfl)
    (of_decide_eq_true (by kernel_rfl)) (by unfold Func.isWrapper; first | (rw [if_pos (by decide +kernel)]; kernel_rfl) | (rw [if_neg (by decide +kernel)]; exact ⟨rfl, rfl⟩))
    (fun os started H enc _ => epeo_lifted os started H enc)
end Go.Proofs.YtmhkgfoimkonoaaDoor
