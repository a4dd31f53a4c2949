/-
  What is proved here: the given statement of the law JudgeCases: its row. No condition beyond the statement's own.
-/
import Derived.Test.YtpkkkhgmkndpdaaGreatDoorLawJudge
import Derived.Test.YtpkkkhgmkndpdaaGreatDoorEvVars
import Derived.Test.YtpkkkhgmkndpdaaGreatDoorRows
import Derived.Test.YtpkkkhgmkndpdaaGreatDoorCards
import Derived.Test.YtpkkkhgmkndpdaaGreatDoorTie
import Derived.ProofKit
import Derived.OpenShut
import Derived.LaidMore
import Derived.Lay
import Derived.Carry
import Derived.SevenTiedAt
import Derived.Stop.Joined
namespace Go.Proofs.YtpkkkhgmkndpdaaGreatDoor
open Go.ChangeShapes Go.WideShapes Go.ChangeAt Go.RowKit

theorem own_knob : ownKnob Tryz.prog.godebug = none := by kernel_rfl
theorem laid_out : laidOutB Tryz.prog = true := by kernel_rfl

set_option maxRecDepth 100000 in
theorem jcases_lifted (os : Os) (started : os.Started) (H : Type) (enc : TypeId × Value → H) :
    ReturnsInHanded {} Tryz.checked os 3 .any (fun w args => (Rows.judgeCasesSpec.pre enc Tryz.prog Tryz.f3 Rows.judgeCasesRow.domain false w args ∧ laidMetH Tryz.prog Rows.judgeCasesRow.laid w) ∧ sizedMet enc Tryz.prog Tryz.f3 (OpenSpec.ofChange Rows.judgeCasesSpec) false w args)
      (Rows.judgeCasesSpec.post enc Tryz.prog Tryz.f3 false true false false) := by
  refine handed_and_shaped (C := Tryz.checked) (X := fun w _ => laidMetH Tryz.prog Rows.judgeCasesRow.laid w) (fun _ _ _ hh h => h.of_heap hh) own_knob started (by kernel_rfl) Tryz.func3
    (ChangeSpec.witness_shaped (enc := enc) (C := Tryz.checked) (os := os) (X := fun w _ => laidMetH Tryz.prog Rows.judgeCasesRow.laid w) false (World.laidAll Tryz.prog os Rows.judgeCasesRow.laid) #[.slice none 0 0] 8 (World.laidAll_os _ _ _)
      (World.shaped_of_ZipB (by kernel_rfl) (by kernel_rfl)) (by kernel_rfl) (by kernel_rfl) (by kernel_rfl)
      (by rw [MakeChecks.laidMetH_plain _ _ _ (by kernel_rfl)]; exact laidMet_laidAll _ (by kernel_rfl) (by kernel_rfl))) ?_
  intro W base args ds gs before hval0 hW hsz hL hSh
  have hval : ∀ (j : Nat) t v, Tryz.f3.params[j]? = some t → args[j]? = some v → Value.okWide Tryz.prog W .any base t v := hval0
  have hW' := hW
  obtain ⟨p, q, hA0, hV, rfl, _, _⟩ := hW
  have hA : DataW.TrodAll enc Tryz.prog W 0 (fun _ => true) true Tryz.f3.params.toList args.toList ds p := hA0
  rw [Tryz.params3] at hA hval
  obtain ⟨v0, d0, rfl, rfl, h0⟩ := trodAll_one hA
  obtain ⟨rfl, rfl⟩ := trodVars_none hV
  have hvars := vars_of_laid hL hSh
  rw [Tryz.params3] at hsz
  have hm0 : Lim Tryz.prog 22 d0 := lim_each hsz (j := 0) rfl rfl
  have h0k := h0
  obtain ⟨Al, nl, cl, rfl⟩ := okWide_slice Tryz.underlying22 (hval 0 22 v0 rfl rfl)
  obtain ⟨f0, hf0⟩ := h0
  clear hA0 hval0
  simp only [List.append_nil] at hW'
  obtain ⟨A', n', c', ll, hce0, hncl, _, hnl, hsl, hinl⟩ := open_evs hf0 hm0
  simp [Value.cells] at hce0
  obtain ⟨rfl, rfl, rfl⟩ := hce0
  have hlt : ∀ x ∈ p, x.block < W.heap.size := fun x hx => by simpa using hW'.lt x (by simpa using hx)
  refine (law_Judge Al nl cl ll _ W hsl (by omega) (fun t ht => (hinl t ht).wf) hvars).mono fun e W' ⟨he, hx⟩ => ?_
  subst he
  refine ⟨_, rfl, _, _, _, [], _, [], hW', trodAll_mk1 (shut_bool Tryz.underlying4 _), trodAll_mk1 (Below.trod laid_out (by kernel_rfl) (of_decide_eq_true (by kernel_rfl)) h0k hx.below hlt), rfl, hx.below.frame _, fun h => by cases h⟩

theorem jcases_holds : Rows.JudgeCasesSaid :=
  OpenClaim.holds_of_wide 3 Tryz.f3 rfl rfl rfl rfl rfl rfl rfl ⟨rfl, rfl, rfl, rfl, rfl⟩ rfl rfl rfl rfl rfl (by kernel_rfl) Tryz.func3 (by kernel_rfl)
    (of_decide_eq_true (by kernel_rfl)) (by unfold Func.isWrapper; first | (rw [if_pos (by decide +kernel)]; kernel_rfl) | (rw [if_neg (by decide +kernel)]; exact ⟨rfl, rfl⟩))
    (fun os started H enc _ => jcases_lifted os started H enc)
end Go.Proofs.YtpkkkhgmkndpdaaGreatDoor
