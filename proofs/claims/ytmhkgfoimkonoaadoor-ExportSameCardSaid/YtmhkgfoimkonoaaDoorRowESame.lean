/-
  What is proved here: the given statement of the law ExportSame: its row. No condition beyond the statement's own.
-/
import Derived.Test.YtmhkgfoimkonoaaDoorLawESame
import Derived.Test.YtmhkgfoimkonoaaDoorEvVars
import Derived.Test.YtmhkgfoimkonoaaDoorRows
import Derived.Test.YtmhkgfoimkonoaaDoorCards
import Derived.Test.YtmhkgfoimkonoaaDoorTie
import Derived.ProofKit
import Derived.OpenShut
import Derived.LaidMore
import Derived.Lay
import Derived.Carry
import Derived.SevenTiedAt
import Derived.Stop.Joined
namespace Go.Proofs.YtmhkgfoimkonoaaDoor
open Go.ChangeShapes Go.WideShapes Go.ChangeAt Go.RowKit

theorem own_knob : ownKnob Tryd.prog.godebug = none := by kernel_rfl
theorem laid_out : laidOutB Tryd.prog = true := by kernel_rfl

set_option maxRecDepth 100000 in
theorem esame_lifted (os : Os) (started : os.Started) (H : Type) (enc : TypeId × Value → H) :
    ReturnsInHanded {} Tryd.checked os 8 .any (fun w args => (Rows.exportSameSpec.pre enc Tryd.prog Tryd.f8 Rows.exportSameRow.domain false w args ∧ laidMetH Tryd.prog Rows.exportSameRow.laid w) ∧ sizedMet enc Tryd.prog Tryd.f8 (OpenSpec.ofChange Rows.exportSameSpec) false w args)
      (Rows.exportSameSpec.post enc Tryd.prog Tryd.f8 false true false false) := by
  refine handed_and_shaped (C := Tryd.checked) (X := fun w _ => laidMetH Tryd.prog Rows.exportSameRow.laid w) (fun _ _ _ hh h => h.of_heap hh) own_knob started (by kernel_rfl) Tryd.func8
    (ChangeSpec.witness_shaped (enc := enc) (C := Tryd.checked) (os := os) (X := fun w _ => laidMetH Tryd.prog Rows.exportSameRow.laid w) false (World.laidAll Tryd.prog os Rows.exportSameRow.laid) #[.slice none 0 0, .int .i64 0, .int .i64 0] 8 (World.laidAll_os _ _ _)
      (World.shaped_of_ZipB (by kernel_rfl) (by kernel_rfl)) (by kernel_rfl) (by kernel_rfl) (by kernel_rfl)
      (by rw [MakeChecks.laidMetH_plain _ _ _ (by kernel_rfl)]; exact laidMet_laidAll _ (by kernel_rfl) (by kernel_rfl))) ?_
  intro W base args ds gs before hval0 hW hsz hL hSh
  have hval : ∀ (j : Nat) t v, Tryd.f8.params[j]? = some t → args[j]? = some v → Value.okWide Tryd.prog W .any base t v := hval0
  have hW' := hW
  obtain ⟨p, q, hA0, hV, rfl, _, _⟩ := hW
  have hA : DataW.TrodAll enc Tryd.prog W 0 (fun _ => true) true Tryd.f8.params.toList args.toList ds p := hA0
  rw [Tryd.params8] at hA hval
  obtain ⟨v0, v1, v2, d0, d1, d2, p0, p1, p2, rfl, rfl, rfl, h0, h1, h2⟩ := trodAll_three hA
  obtain ⟨rfl, rfl⟩ := trodVars_none hV
  have hvars := vars_of_laid hL hSh
  rw [Tryd.params8] at hsz
  have hm0 : Lim Tryd.prog 22 d0 := lim_each hsz (j := 0) rfl rfl
  have h0k := h0
  have hm1 : Lim Tryd.prog 3 d1 := lim_each hsz (j := 1) rfl rfl
  have h1k := h1
  have hm2 : Lim Tryd.prog 3 d2 := lim_each hsz (j := 2) rfl rfl
  have h2k := h2
  obtain ⟨Al, nl, cl, rfl⟩ := okWide_slice Tryd.underlying22 (hval 0 22 v0 rfl rfl)
  obtain ⟨f0, hf0⟩ := h0
  obtain ⟨first, rfl⟩ := okWide_int Tryd.underlying3 (hval 1 3 v1 rfl rfl)
  obtain ⟨f1, hf1⟩ := h1
  obtain ⟨second, rfl⟩ := okWide_int Tryd.underlying3 (hval 2 3 v2 rfl rfl)
  obtain ⟨f2, hf2⟩ := h2
  clear hA0 hval0
  simp only [List.append_nil] at hW'
  obtain ⟨A', n', c', ll, hce0, hncl, _, hnl, hsl, hinl⟩ := open_evs hf0 hm0
  simp [Value.cells] at hce0
  obtain ⟨rfl, rfl, rfl⟩ := hce0
  have hzfirst : (Lit.int .i64 first).wf = true := by
    obtain ⟨z, e, _, hw⟩ := DataW.trod_int Tryd.underlying3 hf1
    simp [Value.cells] at e
    subst e
    exact hw
  have hzsecond : (Lit.int .i64 second).wf = true := by
    obtain ⟨z, e, _, hw⟩ := DataW.trod_int Tryd.underlying3 hf2
    simp [Value.cells] at e
    subst e
    exact hw
  have hlt : ∀ x ∈ p0 ++ p1 ++ p2, x.block < W.heap.size := fun x hx => by simpa using hW'.lt x (by simpa using hx)
  refine (law_ESame Al nl cl ll first second _ W hsl hncl (by omega) (fun t ht => (hinl t ht).wf) hvars).mono fun e W' ⟨he, hx⟩ => ?_
  subst he
  refine ⟨_, rfl, _, _, _, [], _, [], hW', trodAll_mk1 (shut_bool Tryd.underlying4 _), trodAll_mk3 (Below.trod laid_out (by kernel_rfl) (of_decide_eq_true (by kernel_rfl)) h0k hx.below (fun x hx => hlt x (by simp [hx]))) (Below.trod laid_out (by kernel_rfl) (of_decide_eq_true (by kernel_rfl)) h1k hx.below (fun x hx => hlt x (by simp [hx]))) (Below.trod laid_out (by kernel_rfl) (of_decide_eq_true (by kernel_rfl)) h2k hx.below (fun x hx => hlt x (by simp [hx]))), rfl, hx.below.frame _, fun h => by cases h⟩

theorem esame_holds : Rows.ExportSameSaid :=
  OpenClaim.holds_of_wide 8 Tryd.f8 rfl rfl rfl rfl rfl rfl rfl ⟨rfl, rfl, rfl, rfl, rfl⟩ rfl rfl rfl rfl rfl (by kernel_rfl) Tryd.func8 (by kernel_rfl)
    (of_decide_eq_true (by kernel_rfl)) (by unfold Func.isWrapper; first | (rw [if_pos (by decide +kernel)]; kernel_rfl) | (rw [if_neg (by decide +kernel)]; exact ⟨rfl, rfl⟩))
    (fun os started H enc _ => esame_lifted os started H enc)
end Go.Proofs.YtmhkgfoimkonoaaDoor
