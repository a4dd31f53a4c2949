/-
  What is proved here: the given statement of the law TrialLayers: its row. No condition beyond the statement's own.
-/
import Derived.Test.YtdkgphambjnbiaaDoorLawLayers
import Derived.Test.YtdkgphambjnbiaaDoorOpenT
import Derived.Test.YtdkgphambjnbiaaDoorRows
import Derived.Test.YtdkgphambjnbiaaDoorCards
import Derived.Test.YtdkgphambjnbiaaDoorTie
import Derived.ProofKit
import Derived.OpenShut
import Derived.LaidMore
import Derived.Lay
import Derived.Carry
import Derived.SevenTiedAt
import Derived.Stop.Joined
namespace Go.Proofs.YtdkgphambjnbiaaDoor
open Go.ChangeShapes Go.WideShapes Go.ChangeAt Go.RowKit

theorem own_knob : ownKnob Tryd.prog.godebug = none := by kernel_rfl
theorem laid_out : laidOutB Tryd.prog = true := by kernel_rfl

set_option maxRecDepth 100000 in
theorem layers_lifted (os : Os) (started : os.Started) (H : Type) (enc : TypeId × Value → H) :
    ReturnsInHanded {} Tryd.checked os 10 .any (fun w args => (Rows.trialLayersSpec.pre enc Tryd.prog Tryd.f10 Rows.trialLayersRow.domain false w args ∧ laidMetH Tryd.prog Rows.trialLayersRow.laid w) ∧ sizedMet enc Tryd.prog Tryd.f10 (OpenSpec.ofChange Rows.trialLayersSpec) false w args)
      (Rows.trialLayersSpec.post enc Tryd.prog Tryd.f10 false true false false) := by
  refine returnsInHanded_of_change_and (C := Tryd.checked) (X := fun w _ => laidMetH Tryd.prog Rows.trialLayersRow.laid w) (fun _ _ _ hh h => h.of_heap hh) own_knob started (by kernel_rfl) Tryd.func10
    (ChangeSpec.witness_shaped (enc := enc) (C := Tryd.checked) (os := os) (X := fun w _ => laidMetH Tryd.prog Rows.trialLayersRow.laid w) false (World.laidAll Tryd.prog os Rows.trialLayersRow.laid) #[.agg #[.string ⟨#[]⟩, .string ⟨#[]⟩, .int .i64 0, .int .i64 0, .slice none 0 0], .agg #[.string ⟨#[]⟩, .string ⟨#[]⟩, .int .i64 0, .int .i64 0, .slice none 0 0], .string ⟨#[]⟩] 8 (World.laidAll_os _ _ _)
      (World.shaped_of_ZipB (by kernel_rfl) (by kernel_rfl)) (by kernel_rfl) (by kernel_rfl) (by kernel_rfl)
      (by rw [MakeChecks.laidMetH_plain _ _ _ (by kernel_rfl)]; exact laidMet_laidAll _ (by kernel_rfl) (by kernel_rfl))) ?_
  intro W base args ds gs before hval0 hW _ hsz hL _
  have hval : ∀ (j : Nat) t v, Tryd.f10.params[j]? = some t → args[j]? = some v → Value.okWide Tryd.prog W .any base t v := hval0
  have hW' := hW
  obtain ⟨p, q, hA0, hV, rfl, _, _⟩ := hW
  have hA : DataW.TrodAll enc Tryd.prog W 0 (fun _ => true) true Tryd.f10.params.toList args.toList ds p := hA0
  rw [Tryd.params10] at hA hval
  obtain ⟨v0, v1, v2, d0, d1, d2, p0, p1, p2, rfl, rfl, rfl, h0, h1, h2⟩ := trodAll_three hA
  obtain ⟨rfl, rfl⟩ := trodVars_none hV
  rw [Tryd.params10] at hsz
  have hm0 : Lim Tryd.prog 24 d0 := lim_each hsz (j := 0) rfl rfl
  have h0k := h0
  have hm1 : Lim Tryd.prog 24 d1 := lim_each hsz (j := 1) rfl rfl
  have h1k := h1
  have hm2 : Lim Tryd.prog 9 d2 := lim_each hsz (j := 2) rfl rfl
  have h2k := h2
  obtain ⟨cs0, rfl, hcs0⟩ := okWide_struct Tryd.underlying24 (hval 0 24 v0 rfl rfl)
  obtain ⟨f0, hf0⟩ := h0
  obtain ⟨cs1, rfl, hcs1⟩ := okWide_struct Tryd.underlying24 (hval 1 24 v1 rfl rfl)
  obtain ⟨f1, hf1⟩ := h1
  obtain ⟨s, rfl⟩ := okWide_string Tryd.underlying9 (hval 2 9 v2 rfl rfl)
  obtain ⟨f2, hf2⟩ := h2
  clear hA0 hval0
  simp only [List.append_nil] at hW'
  obtain ⟨t, hint, At, ct, hce0, hct, hst⟩ := open_tr (cs := cs0.toList) (by simpa [cells_tr] using hcs0) hf0 hm0
  have hcs0' : cs0 = #[.string t.name, .string t.layer, .int .i64 t.lo, .int .i64 t.hi, .slice At t.arms.length ct] := Array.ext' hce0
  subst hcs0'
  obtain ⟨u, hinu, Au, cu, hce1, hcu, hsu⟩ := open_tr (cs := cs1.toList) (by simpa [cells_tr] using hcs1) hf1 hm1
  have hcs1' : cs1 = #[.string u.name, .string u.layer, .int .i64 u.lo, .int .i64 u.hi, .slice Au u.arms.length cu] := Array.ext' hce1
  subst hcs1'
  have hls : s.size ≤ 140737488355328 := by
    obtain ⟨s, e, v, _⟩ := DataW.trod_string Tryd.underlying9 hf2
    simp [Value.cells] at e
    subst e
    rw [show d2 = _ from congrArg Prod.fst v] at hm2
    exact lim_str hm2
  have hlt : ∀ x ∈ p0 ++ p1 ++ p2, x.block < W.heap.size := fun x hx => by simpa using hW'.lt x (by simpa using hx)
  refine (law_Layers t u s At Au ct cu _ W hst hct hint.wf hsu hcu hinu.wf hls).mono fun e W' ⟨he, hx⟩ => ?_
  subst he
  refine ⟨_, rfl, _, _, _, [], _, [], hW', trodAll_mk1 (shut_bool Tryd.underlying4 _), trodAll_mk3 (Below.trod laid_out (by kernel_rfl) (of_decide_eq_true (by kernel_rfl)) h0k hx.below (fun x hx => hlt x (by simp [hx]))) (Below.trod laid_out (by kernel_rfl) (of_decide_eq_true (by kernel_rfl)) h1k hx.below (fun x hx => hlt x (by simp [hx]))) (Below.trod laid_out (by kernel_rfl) (of_decide_eq_true (by kernel_rfl)) h2k hx.below (fun x hx => hlt x (by simp [hx]))), rfl, hx.below.frame _, fun h => by cases h⟩

theorem layers_holds : Rows.TrialLayersSaid :=
  OpenClaim.holds_of_wide 10 Tryd.f10 rfl rfl rfl rfl rfl rfl rfl ⟨rfl, rfl, rfl, rfl, rfl⟩ rfl rfl rfl rfl rfl (by kernel_rfl) Tryd.func10 (by kernel_rfl)
    (of_decide_eq_true (by kernel_rfl)) (by unfold Func.isWrapper; first | (rw [if_pos (by decide +kernel)]; kernel_rfl) | (rw [if_neg (by decide +kernel)]; exact ⟨rfl, rfl⟩))
    (fun os started H enc _ => layers_lifted os started H enc)
end Go.Proofs.YtdkgphambjnbiaaDoor
