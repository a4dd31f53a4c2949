/-
  What is proved here: the given statement of the law TrialRecounts: its row. No condition beyond the statement's own.
-/
import Derived.Test.YtdkgphambjnbiaaDoorLawRecounts
import Derived.Test.YtdkgphambjnbiaaDoorTrVars
import Derived.Test.YtdkgphambjnbiaaDoorRows
import Derived.Test.YtdkgphambjnbiaaDoorCards
import Derived.Test.YtdkgphambjnbiaaDoorTie
import Derived.ProofKit
import Derived.OpenShut
import Derived.LaidMore
import Derived.Lay
import Derived.Carry
import Derived.SevenTiedAt
import Derived.Stop.Joined
namespace Go.Proofs.YtdkgphambjnbiaaDoor
open Go.ChangeShapes Go.WideShapes Go.ChangeAt Go.RowKit

theorem own_knob : ownKnob Tryd.prog.godebug = none := by kernel_rfl
theorem laid_out : laidOutB Tryd.prog = true := by kernel_rfl

set_option maxRecDepth 100000 in
theorem recounts_lifted (os : Os) (started : os.Started) (H : Type) (enc : TypeId × Value → H) :
    ReturnsInHanded {} Tryd.checked os 8 .any (fun w args => (Rows.trialRecountsSpec.pre enc Tryd.prog Tryd.f8 Rows.trialRecountsRow.domain false w args ∧ laidMetH Tryd.prog Rows.trialRecountsRow.laid w) ∧ sizedMet enc Tryd.prog Tryd.f8 (OpenSpec.ofChange Rows.trialRecountsSpec) false w args)
      (Rows.trialRecountsSpec.post enc Tryd.prog Tryd.f8 false true false false) := by
  refine handed_and_shaped (C := Tryd.checked) (X := fun w _ => laidMetH Tryd.prog Rows.trialRecountsRow.laid w) (fun _ _ _ hh h => h.of_heap hh) own_knob started (by kernel_rfl) Tryd.func8
    (ChangeSpec.witness_shaped (enc := enc) (C := Tryd.checked) (os := os) (X := fun w _ => laidMetH Tryd.prog Rows.trialRecountsRow.laid w) false (World.laidAll Tryd.prog os Rows.trialRecountsRow.laid) #[.agg #[.string ⟨#[]⟩, .string ⟨#[]⟩, .int .i64 0, .int .i64 0, .slice none 0 0], .slice none 0 0, .slice none 0 0, .string ⟨#[]⟩] 8 (World.laidAll_os _ _ _)
      (World.shaped_of_ZipB (by kernel_rfl) (by kernel_rfl)) (by kernel_rfl) (by kernel_rfl) (by kernel_rfl)
      (by rw [MakeChecks.laidMetH_plain _ _ _ (by kernel_rfl)]; exact laidMet_laidAll _ (by kernel_rfl) (by kernel_rfl))) ?_
  intro W base args ds gs before hval0 hW hsz hL hSh
  have hval : ∀ (j : Nat) t v, Tryd.f8.params[j]? = some t → args[j]? = some v → Value.okWide Tryd.prog W .any base t v := hval0
  have hW' := hW
  obtain ⟨p, q, hA0, hV, rfl, _, _⟩ := hW
  have hA : DataW.TrodAll enc Tryd.prog W 0 (fun _ => true) true Tryd.f8.params.toList args.toList ds p := hA0
  rw [Tryd.params8] at hA hval
  obtain ⟨v0, v1, v2, v3, d0, d1, d2, d3, p0, p1, p2, p3, rfl, rfl, rfl, h0, h1, h2, h3⟩ := trodAll_four hA
  obtain ⟨rfl, rfl⟩ := trodVars_none hV
  have hvars := vars_of_laid hL hSh
  rw [Tryd.params8] at hsz
  have hm0 : Lim Tryd.prog 24 d0 := lim_each hsz (j := 0) rfl rfl
  have h0k := h0
  have hm1 : Lim Tryd.prog 34 d1 := lim_each hsz (j := 1) rfl rfl
  have h1k := h1
  have hm2 : Lim Tryd.prog 35 d2 := lim_each hsz (j := 2) rfl rfl
  have h2k := h2
  have hm3 : Lim Tryd.prog 9 d3 := lim_each hsz (j := 3) rfl rfl
  have h3k := h3
  obtain ⟨cs0, rfl, hcs0⟩ := okWide_struct Tryd.underlying24 (hval 0 24 v0 rfl rfl)
  obtain ⟨f0, hf0⟩ := h0
  obtain ⟨Ax, nx, cx, rfl⟩ := okWide_slice Tryd.underlying34 (hval 1 34 v1 rfl rfl)
  obtain ⟨f1, hf1⟩ := h1
  obtain ⟨Aa, na, ca, rfl⟩ := okWide_slice Tryd.underlying35 (hval 2 35 v2 rfl rfl)
  obtain ⟨f2, hf2⟩ := h2
  obtain ⟨s, rfl⟩ := okWide_string Tryd.underlying9 (hval 3 9 v3 rfl rfl)
  obtain ⟨f3, hf3⟩ := h3
  clear hA0 hval0
  simp only [List.append_nil] at hW'
  obtain ⟨t, hint, At, ct, hce0, hct, hst⟩ := open_tr (cs := cs0.toList) (by simpa [cells_tr] using hcs0) hf0 hm0
  have hcs0' : cs0 = #[.string t.name, .string t.layer, .int .i64 t.lo, .int .i64 t.hi, .slice At t.arms.length ct] := Array.ext' hce0
  subst hcs0'
  obtain ⟨A', n', c', lx, hce1, hncx, _, hnx, hsx, hinx⟩ := open_exps hf1 hm1
  simp [Value.cells] at hce1
  obtain ⟨rfl, rfl, rfl⟩ := hce1
  obtain ⟨A', n', c', la, hce2, hnca, _, hna, hsa, hina⟩ := open_evs hf2 hm2
  simp [Value.cells] at hce2
  obtain ⟨rfl, rfl, rfl⟩ := hce2
  have hls : s.size ≤ 140737488355328 := by
    obtain ⟨s, e, v, _⟩ := DataW.trod_string Tryd.underlying9 hf3
    simp [Value.cells] at e
    subst e
    rw [show d3 = _ from congrArg Prod.fst v] at hm3
    exact lim_str hm3
  have hlt : ∀ x ∈ p0 ++ p1 ++ p2 ++ p3, x.block < W.heap.size := fun x hx => by simpa using hW'.lt x (by simpa using hx)
  refine (law_Recounts t At ct Ax nx cx lx Aa na ca la s (fun k => k < W.heap.size) W hst hct hint.wf (fun _ h => h) hsx hnx (fun y hy => (hinx y hy).person) hsa hna (fun e he => (hina e he).wf) hvars hls).mono fun e W' ⟨he, hx⟩ => ?_
  subst he
  refine ⟨_, rfl, _, _, _, [], _, [], hW', trodAll_mk1 (shut_bool Tryd.underlying4 _), trodAll_mk4 (Below.trod laid_out (by kernel_rfl) (of_decide_eq_true (by kernel_rfl)) h0k hx.below (fun x hx => hlt x (by simp [hx]))) (Below.trod laid_out (by kernel_rfl) (of_decide_eq_true (by kernel_rfl)) h1k hx.below (fun x hx => hlt x (by simp [hx]))) (Below.trod laid_out (by kernel_rfl) (of_decide_eq_true (by kernel_rfl)) h2k hx.below (fun x hx => hlt x (by simp [hx]))) (Below.trod laid_out (by kernel_rfl) (of_decide_eq_true (by kernel_rfl)) h3k hx.below (fun x hx => hlt x (by simp [hx]))), rfl, hx.below.frame _, fun h => by cases h⟩

theorem recounts_holds : Rows.TrialRecountsSaid :=
  OpenClaim.holds_of_wide 8 Tryd.f8 rfl rfl rfl rfl rfl rfl rfl ⟨rfl, rfl, rfl, rfl, rfl⟩ rfl rfl rfl rfl rfl (by kernel_rfl) Tryd.func8 (by kernel_rfl)
    (of_decide_eq_true (by kernel_rfl)) (by unfold Func.isWrapper; first | (rw [if_pos (by decide +kernel)]; kernel_rfl) | (rw [if_neg (by decide +kernel)]; exact ⟨rfl, rfl⟩))
    (fun os started H enc _ => recounts_lifted os started H enc)
end Go.Proofs.YtdkgphambjnbiaaDoor
