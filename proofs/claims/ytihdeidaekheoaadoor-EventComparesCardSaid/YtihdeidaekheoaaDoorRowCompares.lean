/-
  What is proved here: the given statement of the law EventCompares: its row. No condition beyond the statement's own.
-/
import Derived.Test.YtihdeidaekheoaaDoorLawCmpZ
import Derived.Test.YtihdeidaekheoaaDoorEvVars
import Derived.Test.YtihdeidaekheoaaDoorRows
import Derived.Test.YtihdeidaekheoaaDoorCards
import Derived.Test.YtihdeidaekheoaaDoorTie
import Derived.ProofKit
import Derived.OpenShut
import Derived.LaidMore
import Derived.Lay
import Derived.Carry
import Derived.SevenTiedAt
import Derived.Stop.Joined
namespace Go.Proofs.YtihdeidaekheoaaDoor
open Go.ChangeShapes Go.WideShapes Go.ChangeAt Go.RowKit

theorem own_knob : ownKnob Tryd.prog.godebug = none := by kernel_rfl
theorem laid_out : laidOutB Tryd.prog = true := by kernel_rfl

set_option maxRecDepth 100000 in
theorem compares_lifted (os : Os) (started : os.Started) (H : Type) (enc : TypeId × Value → H) :
    ReturnsInHanded {} Tryd.checked os 7 .any (fun w args => (Rows.eventComparesSpec.pre enc Tryd.prog Tryd.f7 Rows.eventComparesRow.domain false w args ∧ laidMetH Tryd.prog Rows.eventComparesRow.laid w) ∧ sizedMet enc Tryd.prog Tryd.f7 (OpenSpec.ofChange Rows.eventComparesSpec) false w args)
      (Rows.eventComparesSpec.post enc Tryd.prog Tryd.f7 false true false false) := by
  refine handed_and_shaped (C := Tryd.checked) (X := fun w _ => laidMetH Tryd.prog Rows.eventComparesRow.laid w) (fun _ _ _ hh h => h.of_heap hh) own_knob started (by kernel_rfl) Tryd.func7
    (ChangeSpec.witness_shaped (enc := enc) (C := Tryd.checked) (os := os) (X := fun w _ => laidMetH Tryd.prog Rows.eventComparesRow.laid w) false (World.laidAll Tryd.prog os Rows.eventComparesRow.laid) #[.agg #[.string ⟨#[]⟩, .int .i64 0, .int .i64 0, .int .i64 0, .string ⟨#[]⟩, .string ⟨#[]⟩, .int .i64 0, .string ⟨#[]⟩], .agg #[.string ⟨#[]⟩, .int .i64 0, .int .i64 0, .int .i64 0, .string ⟨#[]⟩, .string ⟨#[]⟩, .int .i64 0, .string ⟨#[]⟩], .agg #[.string ⟨#[]⟩, .int .i64 0, .int .i64 0, .int .i64 0, .string ⟨#[]⟩, .string ⟨#[]⟩, .int .i64 0, .string ⟨#[]⟩]] 8 (World.laidAll_os _ _ _)
      (World.shaped_of_ZipB (by kernel_rfl) (by kernel_rfl)) (by kernel_rfl) (by kernel_rfl) (by kernel_rfl)
      (by rw [MakeChecks.laidMetH_plain _ _ _ (by kernel_rfl)]; exact laidMet_laidAll _ (by kernel_rfl) (by kernel_rfl))) ?_
  intro W base args ds gs before hval0 hW hsz hL hSh
  have hval : ∀ (j : Nat) t v, Tryd.f7.params[j]? = some t → args[j]? = some v → Value.okWide Tryd.prog W .any base t v := hval0
  have hW' := hW
  obtain ⟨p, q, hA0, hV, rfl, _, _⟩ := hW
  have hA : DataW.TrodAll enc Tryd.prog W 0 (fun _ => true) true Tryd.f7.params.toList args.toList ds p := hA0
  rw [Tryd.params7] at hA hval
  obtain ⟨v0, v1, v2, d0, d1, d2, p0, p1, p2, rfl, rfl, rfl, h0, h1, h2⟩ := trodAll_three hA
  obtain ⟨rfl, rfl⟩ := trodVars_none hV
  have hvars := vars_of_laid hL hSh
  rw [Tryd.params7] at hsz
  have hm0 : Lim Tryd.prog 24 d0 := lim_each hsz (j := 0) rfl rfl
  have h0k := h0
  have hm1 : Lim Tryd.prog 24 d1 := lim_each hsz (j := 1) rfl rfl
  have h1k := h1
  have hm2 : Lim Tryd.prog 24 d2 := lim_each hsz (j := 2) rfl rfl
  have h2k := h2
  obtain ⟨cs0, rfl, hcs0⟩ := okWide_struct Tryd.underlying24 (hval 0 24 v0 rfl rfl)
  obtain ⟨f0, hf0⟩ := h0
  obtain ⟨cs1, rfl, hcs1⟩ := okWide_struct Tryd.underlying24 (hval 1 24 v1 rfl rfl)
  obtain ⟨f1, hf1⟩ := h1
  obtain ⟨cs2, rfl, hcs2⟩ := okWide_struct Tryd.underlying24 (hval 2 24 v2 rfl rfl)
  obtain ⟨f2, hf2⟩ := h2
  clear hA0 hval0
  simp only [List.append_nil] at hW'
  obtain ⟨a, hina, hce0⟩ := open_ev (cs := cs0.toList) (by simpa [cells_evs] using hcs0) hf0 hm0
  have hcs0' : cs0 = #[.string a.src, .int .i64 a.num, .int .i64 a.tick, .int .i64 a.kind, .string a.person, .string a.item, .int .i64 a.value, .string a.text] := Array.ext' hce0
  subst hcs0'
  obtain ⟨b, hinb, hce1⟩ := open_ev (cs := cs1.toList) (by simpa [cells_evs] using hcs1) hf1 hm1
  have hcs1' : cs1 = #[.string b.src, .int .i64 b.num, .int .i64 b.tick, .int .i64 b.kind, .string b.person, .string b.item, .int .i64 b.value, .string b.text] := Array.ext' hce1
  subst hcs1'
  obtain ⟨c, hinc, hce2⟩ := open_ev (cs := cs2.toList) (by simpa [cells_evs] using hcs2) hf2 hm2
  have hcs2' : cs2 = #[.string c.src, .int .i64 c.num, .int .i64 c.tick, .int .i64 c.kind, .string c.person, .string c.item, .int .i64 c.value, .string c.text] := Array.ext' hce2
  subst hcs2'
  have hlt : ∀ x ∈ p0 ++ p1 ++ p2, x.block < W.heap.size := fun x hx => by simpa using hW'.lt x (by simpa using hx)
  refine (law_Cmp a b c W hina.wf hinb.wf hinc.wf hvars).mono fun e W' ⟨he, hx⟩ => ?_
  subst he
  refine ⟨_, rfl, _, _, _, [], _, [], hW', trodAll_mk1 (shut_bool Tryd.underlying4 _), trodAll_mk3 (Below.trod laid_out (by kernel_rfl) (of_decide_eq_true (by kernel_rfl)) h0k hx.below (fun x hx => hlt x (by simp [hx]))) (Below.trod laid_out (by kernel_rfl) (of_decide_eq_true (by kernel_rfl)) h1k hx.below (fun x hx => hlt x (by simp [hx]))) (Below.trod laid_out (by kernel_rfl) (of_decide_eq_true (by kernel_rfl)) h2k hx.below (fun x hx => hlt x (by simp [hx]))), rfl, hx.below.frame _, fun h => by cases h⟩

theorem compares_holds : Rows.EventComparesSaid :=
  OpenClaim.holds_of_wide 7 Tryd.f7 rfl rfl rfl rfl rfl rfl rfl ⟨rfl, rfl, rfl, rfl, rfl⟩ rfl rfl rfl rfl rfl (by kernel_rfl) Tryd.func7 (by kernel_rfl)
    (of_decide_eq_true (by kernel_rfl)) (by unfold Func.isWrapper; first | (rw [if_pos (by decide +kernel)]; kernel_rfl) | (rw [if_neg (by decide +kernel)]; exact ⟨rfl, rfl⟩))
    (fun os started H enc _ => compares_lifted os started H enc)
end Go.Proofs.YtihdeidaekheoaaDoor
