/-
  What is proved here: the given statement of the law TrialSums: its row. No condition beyond the statement's own.
-/
import Derived.Test.YtdkgphambjnbiaaDoorLawSums
import Derived.Test.YtdkgphambjnbiaaDoorTrVars
import Derived.Test.YtdkgphambjnbiaaDoorRows
import Derived.Test.YtdkgphambjnbiaaDoorCards
import Derived.Test.YtdkgphambjnbiaaDoorTie
import Derived.ProofKit
import Derived.OpenShut
import Derived.LaidMore
import Derived.Lay
import Derived.Carry
import Derived.SevenTiedAt
import Derived.Stop.Joined
namespace Go.Proofs.YtdkgphambjnbiaaDoor
open Go.ChangeShapes Go.WideShapes Go.ChangeAt Go.RowKit

theorem own_knob : ownKnob Tryd.prog.godebug = none := by kernel_rfl
theorem laid_out : laidOutB Tryd.prog = true := by kernel_rfl

set_option maxRecDepth 100000 in
theorem sums_lifted (os : Os) (started : os.Started) (H : Type) (enc : TypeId × Value → H) :
    ReturnsInHanded {} Tryd.checked os 7 .any (fun w args => (Rows.trialSumsSpec.pre enc Tryd.prog Tryd.f7 Rows.trialSumsRow.domain false w args ∧ laidMetH Tryd.prog Rows.trialSumsRow.laid w) ∧ sizedMet enc Tryd.prog Tryd.f7 (OpenSpec.ofChange Rows.trialSumsSpec) false w args)
      (Rows.trialSumsSpec.post enc Tryd.prog Tryd.f7 false true false false) := by
  refine handed_and_shaped (C := Tryd.checked) (X := fun w _ => laidMetH Tryd.prog Rows.trialSumsRow.laid w) (fun _ _ _ hh h => h.of_heap hh) own_knob started (by kernel_rfl) Tryd.func7
    (ChangeSpec.witness_shaped (enc := enc) (C := Tryd.checked) (os := os) (X := fun w _ => laidMetH Tryd.prog Rows.trialSumsRow.laid w) false (World.laidAll Tryd.prog os Rows.trialSumsRow.laid) #[.agg #[.string ⟨#[]⟩, .string ⟨#[]⟩, .int .i64 0, .int .i64 0, .slice none 0 0], .slice none 0 0, .slice none 0 0] 8 (World.laidAll_os _ _ _)
      (World.shaped_of_ZipB (by kernel_rfl) (by kernel_rfl)) (by kernel_rfl) (by kernel_rfl) (by kernel_rfl)
      (by rw [MakeChecks.laidMetH_plain _ _ _ (by kernel_rfl)]; exact laidMet_laidAll _ (by kernel_rfl) (by kernel_rfl))) ?_
  intro W base args ds gs before hval0 hW hsz hL hSh
  have hval : ∀ (j : Nat) t v, Tryd.f7.params[j]? = some t → args[j]? = some v → Value.okWide Tryd.prog W .any base t v := hval0
  have hW' := hW
  obtain ⟨p, q, hA0, hV, rfl, _, _⟩ := hW
  have hA : DataW.TrodAll enc Tryd.prog W 0 (fun _ => true) true Tryd.f7.params.toList args.toList ds p := hA0
  rw [Tryd.params7] at hA hval
  obtain ⟨v0, v1, v2, d0, d1, d2, p0, p1, p2, rfl, rfl, rfl, h0, h1, h2⟩ := trodAll_three hA
  obtain ⟨rfl, rfl⟩ := trodVars_none hV
  have hvars := vars_of_laid hL hSh
  rw [Tryd.params7] at hsz
  have hm0 : Lim Tryd.prog 24 d0 := lim_each hsz (j := 0) rfl rfl
  have h0k := h0
  have hm1 : Lim Tryd.prog 34 d1 := lim_each hsz (j := 1) rfl rfl
  have h1k := h1
  have hm2 : Lim Tryd.prog 35 d2 := lim_each hsz (j := 2) rfl rfl
  have h2k := h2
  obtain ⟨cs0, rfl, hcs0⟩ := okWide_struct Tryd.underlying24 (hval 0 24 v0 rfl rfl)
  obtain ⟨f0, hf0⟩ := h0
  obtain ⟨Ax, nx, cx, rfl⟩ := okWide_slice Tryd.underlying34 (hval 1 34 v1 rfl rfl)
  obtain ⟨f1, hf1⟩ := h1
  obtain ⟨Aa, na, ca, rfl⟩ := okWide_slice Tryd.underlying35 (hval 2 35 v2 rfl rfl)
  obtain ⟨f2, hf2⟩ := h2
  clear hA0 hval0
  simp only [List.append_nil] at hW'
  obtain ⟨t, hint, At, ct, hce0, hct, hst⟩ := open_tr (cs := cs0.toList) (by simpa [cells_tr] using hcs0) hf0 hm0
  have hcs0' : cs0 = #[.string t.name, .string t.layer, .int .i64 t.lo, .int .i64 t.hi, .slice At t.arms.length ct] := Array.ext' hce0
  subst hcs0'
  obtain ⟨A', n', c', lx, hce1, hncx, _, hnx, hsx, hinx⟩ := open_exps hf1 hm1
  simp [Value.cells] at hce1
  obtain ⟨rfl, rfl, rfl⟩ := hce1
  obtain ⟨A', n', c', la, hce2, hnca, _, hna, hsa, hina⟩ := open_evs hf2 hm2
  simp [Value.cells] at hce2
  obtain ⟨rfl, rfl, rfl⟩ := hce2
  have hlt : ∀ x ∈ p0 ++ p1 ++ p2, x.block < W.heap.size := fun x hx => by simpa using hW'.lt x (by simpa using hx)
  refine (law_Sums t At ct Ax nx cx lx Aa na ca la (fun k => k < W.heap.size) W hst hct hint.wf (fun _ h => h) hsx hnx (fun y hy => (hinx y hy).person) hsa hna (fun e he => (hina e he).wf) hvars).mono fun e W' ⟨he, hx⟩ => ?_
  subst he
  refine ⟨_, rfl, _, _, _, [], _, [], hW', trodAll_mk1 (shut_bool Tryd.underlying4 _), trodAll_mk3 (Below.trod laid_out (by kernel_rfl) (of_decide_eq_true (by kernel_rfl)) h0k hx.below (fun x hx => hlt x (by simp [hx]))) (Below.trod laid_out (by kernel_rfl) (of_decide_eq_true (by kernel_rfl)) h1k hx.below (fun x hx => hlt x (by simp [hx]))) (Below.trod laid_out (by kernel_rfl) (of_decide_eq_true (by kernel_rfl)) h2k hx.below (fun x hx => hlt x (by simp [hx]))), rfl, hx.below.frame _, fun h => by cases h⟩

theorem sums_holds : Rows.TrialSumsSaid :=
  OpenClaim.holds_of_wide 7 Tryd.f7 rfl rfl rfl rfl rfl rfl rfl ⟨rfl, rfl, rfl, rfl, rfl⟩ rfl rfl rfl rfl rfl (by kernel_rfl) Tryd.func7 (by kernel_rfl)
    (of_decide_eq_true (by kernel_rfl)) (by unfold Func.isWrapper; first | (rw [if_pos (by decide +kernel)]; kernel_rfl) | (rw [if_neg (by decide +kernel)]; exact ⟨rfl, rfl⟩))
    (fun os started H enc _ => sums_lifted os started H enc)
end Go.Proofs.YtdkgphambjnbiaaDoor
