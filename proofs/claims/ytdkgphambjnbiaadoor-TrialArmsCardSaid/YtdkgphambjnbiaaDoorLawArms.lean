/-
  What is proved here: the law TrialArms returns true, whatever the trial, the layer and the person, and leaves old memory as it was. Conditions: no text is longer than a text can be.
-/
import Derived.Test.YtdkgphambjnbiaaDoorTrLives
namespace Go.Proofs.YtdkgphambjnbiaaDoor
open Go Go.RowKit Go.Proofs
attribute [local go_sem ↓] Go.wp_at_zero Go.wp_at_succ

set_option maxRecDepth 100000 in
set_option maxHeartbeats 4000000 in
theorem law_Arms (t : Tr) (layer person : ByteArray) (A : Option Addr) (c : Nat) (ok : Nat → Prop) (w : World) (hs : Sl strR ok w A t.arms.length t.arms) (hc : t.arms.length ≤ c) (hwf : TrWf t) (hl : layer.size ≤ 140737488355328) (hp : person.size ≤ 140737488355328) :
    Calls Tryd.prog 3 #[.agg #[.string t.name, .string t.layer, .int .i64 t.lo, .int .i64 t.hi, .slice A t.arms.length c], .string layer, .string person] w fun r w' => r = .returned (.bool true) ∧ Ext w w' := by
  have Hs := Lib.hid (show Sl strR (fun _ => True) w A t.arms.length t.arms from hs.mono (fun _ _ _ => trivial))
  have Hwf := Lib.hid hwf
  clear hs hwf
  cases hf : fewTs [t]
  · go_enter Tryd.func3, Tryd.ntmps3
    go_wp2_with (first | (go_at_call 11; refine (law_lives _).mono ?_; rintro _ w1 ⟨rfl, hx1⟩; have g1 := hx1.blk (blk_new w _); have r0 := blk_cell g1 0 rfl; have r1 := blk_cell g1 1 rfl; have r2 := blk_cell g1 2 rfl; have r3 := blk_cell g1 3 rfl; have r4 := blk_cell g1 4 rfl; have Hg1 := Lib.hid g1; have Hx1 := Lib.hid (Keeps.trans ((Keeps.refl (fun _ => True) w).alloc _) hx1); clear hx1 g1) | (go_at_call 12; refine (law_few (some ⟨w1.heap.size, 0, none⟩) 1 1 [t] (fun _ => True) _ (one_tr t (blk_new w1 _) trivial hc ((Hs.out.ext Hx1.out).alloc _)) (by decide) (fun x hx => by simp at hx; subst hx; exact Hwf.out)).mono ?_; rw [hf]; rintro _ w2 ⟨rfl, hx2⟩; have hx12 := Keeps.trans ((Keeps.refl (fun _ => True) w1).alloc _) hx2; have g2 := Ext.blk hx12 Hg1.out; have s0 := blk_cell g2 0 rfl; have s1 := blk_cell g2 1 rfl; have s2 := blk_cell g2 2 rfl; have s3 := blk_cell g2 3 rfl; have s4 := blk_cell g2 4 rfl; have Hg2 := Lib.hid g2; have Hx2 := Lib.hid (Hx1.out.trans hx12); clear hx2 hx12 g2))
    go_ret
    exact ⟨rfl, Hx2.out⟩
  by_cases h300 : 300 < layer.size + person.size
  · go_enter Tryd.func3, Tryd.ntmps3
    go_wp2_with (first | (go_at_call 11; refine (law_lives _).mono ?_; rintro _ w1 ⟨rfl, hx1⟩; have g1 := hx1.blk (blk_new w _); have r0 := blk_cell g1 0 rfl; have r1 := blk_cell g1 1 rfl; have r2 := blk_cell g1 2 rfl; have r3 := blk_cell g1 3 rfl; have r4 := blk_cell g1 4 rfl; have Hg1 := Lib.hid g1; have Hx1 := Lib.hid (Keeps.trans ((Keeps.refl (fun _ => True) w).alloc _) hx1); clear hx1 g1) | (go_at_call 12; refine (law_few (some ⟨w1.heap.size, 0, none⟩) 1 1 [t] (fun _ => True) _ (one_tr t (blk_new w1 _) trivial hc ((Hs.out.ext Hx1.out).alloc _)) (by decide) (fun x hx => by simp at hx; subst hx; exact Hwf.out)).mono ?_; rw [hf]; rintro _ w2 ⟨rfl, hx2⟩; have hx12 := Keeps.trans ((Keeps.refl (fun _ => True) w1).alloc _) hx2; have g2 := Ext.blk hx12 Hg1.out; have s0 := blk_cell g2 0 rfl; have s1 := blk_cell g2 1 rfl; have s2 := blk_cell g2 2 rfl; have s3 := blk_cell g2 3 rfl; have s4 := blk_cell g2 4 rfl; have Hg2 := Lib.hid g2; have Hx2 := Lib.hid (Hx1.out.trans hx12); clear hx2 hx12 g2))
    go_ret
    exact ⟨rfl, Hx2.out⟩
  have hlm : layer.size < maxLen := lt_maxLen hl
  have hpm : person.size < maxLen := lt_maxLen hp
  go_enter Tryd.func3, Tryd.ntmps3
  go_wp2_with (first
    | (go_at_call 11; refine (law_lives _).mono ?_; rintro _ w1 ⟨rfl, hx1⟩; have g1 := hx1.blk (blk_new w _); have r0 := blk_cell g1 0 rfl; have r1 := blk_cell g1 1 rfl; have r2 := blk_cell g1 2 rfl; have r3 := blk_cell g1 3 rfl; have r4 := blk_cell g1 4 rfl; have Hg1 := Lib.hid g1; have Hx1 := Lib.hid (Keeps.trans ((Keeps.refl (fun _ => True) w).alloc _) hx1); clear hx1 g1)
    | (go_at_call 12; refine (law_few (some ⟨w1.heap.size, 0, none⟩) 1 1 [t] (fun _ => True) _ (one_tr t (blk_new w1 _) trivial hc ((Hs.out.ext Hx1.out).alloc _)) (by decide) (fun x hx => by simp at hx; subst hx; exact Hwf.out)).mono ?_; rw [hf]; rintro _ w2 ⟨rfl, hx2⟩; have hx12 := Keeps.trans ((Keeps.refl (fun _ => True) w1).alloc _) hx2; have g2 := Ext.blk hx12 Hg1.out; have s0 := blk_cell g2 0 rfl; have s1 := blk_cell g2 1 rfl; have s2 := blk_cell g2 2 rfl; have s3 := blk_cell g2 3 rfl; have s4 := blk_cell g2 4 rfl; have Hg2 := Lib.hid g2; have Hx2 := Lib.hid (Hx1.out.trans hx12); clear hx2 hx12 g2)
    | (go_at_call 13; refine (law_to t A c _).mono ?_; rintro _ w3 ⟨rfl, hx3⟩; have Hx3 := Lib.hid hx3; clear hx3)
    | (go_at_call 14; refine (tr_Arm t person A c (fun _ => True) _ ((Hs.out.ext Hx2.out).ext Hx3.out) hc Hwf.out hpm).mono ?_; rintro _ w4 ⟨rfl, hx4⟩; have hx24 := Hx3.out.trans hx4; have g4 := Ext.blk hx24 Hg2.out; have q0 := blk_cell g4 0 rfl; have q1 := blk_cell g4 1 rfl; have q2 := blk_cell g4 2 rfl; have q3 := blk_cell g4 3 rfl; have q4 := blk_cell g4 4 rfl; have Hg4 := Lib.hid g4; have Hx4 := Lib.hid (Hx2.out.trans hx24); clear hx4 hx24 g4)
    | (go_at_call 15; refine (rf_Arm t person A c (fun _ => True) _ (Hs.out.ext Hx4.out) Hwf.out hpm).mono ?_; rintro _ w5 ⟨rfl, hx5⟩; have g5 := hx5.blk Hg4.out; have p0 := blk_cell g5 0 rfl; have p1 := blk_cell g5 1 rfl; have p2 := blk_cell g5 2 rfl; have p3 := blk_cell g5 3 rfl; have p4 := blk_cell g5 4 rfl; have Hg5 := Lib.hid g5; have Hx5 := Lib.hid (Hx4.out.trans hx5); clear hx5 g5))
  have hlt : w.heap.size < w5.heap.size := (Array.getElem?_eq_some_iff.1 Hg5.out).1
  clear r0 r1 r2 r3 r4 s0 s1 s2 s3 s4 q0 q1 q2 q3 q4
  generalize armT t person = a
  generalize inT t person = i
  have R1 := Lib.hid (fun (W : World) (h : Ext w5 W) => tr_May t A c (fun _ => True) W ((Hs.out.ext Hx5.out).ext h) hc Hwf.out)
  have R2 := Lib.hid (fun (W : World) (h : Ext w5 W) => rf_May t A c (fun _ => True) W ((Hs.out.ext Hx5.out).ext h) Hwf.out)
  have R3 := Lib.hid (fun (W : World) => tr_Bucket layer person W hlm hpm)
  have R4 := Lib.hid (fun (W : World) => rf_Bucket layer person W hlm hpm)
  generalize mayT t = mm at R1 R2
  generalize bucketT layer person = bb at R3 R4
  refine wp_region_ext w5 (Keeps.refl _ _) (by kernel_rfl) (by kernel_rfl) ?_
  have hcell := fun (y : XW w5) => y.cell
  repeat (go_big_quiet_step (first
    | (go_at_call 13; exact ext_calls (law_to t A c _))
    | (go_at_call 16; exact ext_calls (R1.out _ (XW.h _)))
    | (go_at_call 17; exact ext_calls (R2.out _ (XW.h _)))
    | (go_at_call 18; exact ext_calls (R3.out _))
    | (go_at_call 19; exact ext_calls (R4.out _))))
  refine wpQuiet_nil ?_
  rintro _ ⟨y, rfl⟩
  go_wp2_with fail
  go_ret
  exact ⟨by simp, Hx5.out.trans y.h⟩
end Go.Proofs.YtdkgphambjnbiaaDoor
