/-
  What is proved here: the law TrialSums returns true, whatever the trial, exposures and events, and leaves old memory as it was. Conditions: no text is longer than a text can be; the library's variable holds some number.
-/
import Derived.Test.YtdkgphambjnbiaaDoorTrBook
import Derived.Test.YtdkgphambjnbiaaDoorTrTwo
import Derived.Test.YtdkgphambjnbiaaDoorEvBig
import Derived.Test.YtdkgphambjnbiaaDoorQuiet
import Derived.Deep.RegionWith
import Derived.Deep.RegionHeld3
import Derived.RegionTactic
import Derived.Deep.DeepCutAuto
import Derived.BigRegion
namespace Go.Proofs.YtdkgphambjnbiaaDoor
open Go Go.RowKit Go.Proofs
attribute [local go_sem ↓] Go.wp_at_zero Go.wp_at_succ
theorem one_clash (t : Tr) : clashT [t] = false := clashT_no fun k hk => by
  obtain rfl : k = 0 := by simpa using hk
  rfl
theorem meet_ {G T : Prop} (f : G → T) (g : G) : T := f g
/-- Whom the law exposes. -/
def expA (t : Tr) (x : List Xp) : List Xp := x.map (fun y => ⟨t.name, y.person, y.tick⟩)
theorem expA_take {t : Tr} {x : List Xp} {k : Nat} {e : Xp} (h : x[k]? = some e) : expA t (x.take (k + 1)) = expA t (x.take k) ++ [⟨t.name, e.person, e.tick⟩] := by
  unfold expA; rw [List.take_add_one, h, List.map_append]; rfl

set_option maxRecDepth 100000 in
set_option maxHeartbeats 4000000 in
theorem law_Sums (t : Tr) (A : Option Addr) (c : Nat) (Ax : Option Addr) (nx cx : Nat) (x : List Xp) (Aa : Option Addr) (na ca : Nat) (all : List Ev) (ok : Nat → Prop) (w : World) (hs : Sl strR ok w A t.arms.length t.arms) (hc : t.arms.length ≤ c) (hwf : TrWf t) (hok : ∀ k, ok k → k < w.heap.size)
    (hsx : Sl xpR ok w Ax nx x) (hnx : nx ≤ 140737488355328) (hxt : ∀ y ∈ x, y.person.size ≤ 140737488355328) (hsa : Sl evR ok w Aa na all) (hna : na ≤ 140737488355328) (hew : ∀ e ∈ all, EvWf e) (hmx : Mx w) :
    Calls Tryd.prog 7 #[.agg #[.string t.name, .string t.layer, .int .i64 t.lo, .int .i64 t.hi, .slice A t.arms.length c], .slice Ax nx cx, .slice Aa na ca] w fun r w' => r = .returned (.bool true) ∧ Ext w w' := by
  have Hs := Lib.hid (show Sl strR (fun _ => True) w A t.arms.length t.arms from hs.mono (fun _ _ _ => trivial))
  have Hwf := Lib.hid hwf
  have Hok := Lib.hid hok
  have Hsx := Lib.hid hsx
  have Hlx := Lib.hid hsx.1
  have Hxt := Lib.hid hxt
  have Hsa := Lib.hid hsa
  have Hew := Lib.hid hew
  have Hmx := Lib.hid hmx
  have hnam : na ≤ maxLen := le_maxLen hna
  have HSo := Lib.hid (fun (W : World) (h : Ext w W) => ref_Some Aa na ca all 300 ok W (Hsa.out.ext h) hnam Hew.out)
  clear hs hwf hok hsx hxt hsa hew hmx
  cases hf : fewTs [t]
  · go_enter Tryd.func7, Tryd.ntmps7
    go_wp2_with (first | (go_at_call 11; refine (law_lives _).mono ?_; rintro _ w1 ⟨rfl, hx1⟩; have g1 := hx1.blk (blk_new w _); have r0 := blk_cell g1 0 rfl; have r1 := blk_cell g1 1 rfl; have r2 := blk_cell g1 2 rfl; have r3 := blk_cell g1 3 rfl; have r4 := blk_cell g1 4 rfl; have Hg1 := Lib.hid g1; have Hx1 := Lib.hid (Keeps.trans ((Keeps.refl (fun _ => True) w).alloc _) hx1); clear hx1 g1) | (go_at_call 12; refine (law_few (some ⟨w1.heap.size, 0, none⟩) 1 1 [t] (fun _ => True) _ (one_tr t (blk_new w1 _) trivial hc ((Hs.out.ext Hx1.out).alloc _)) (by decide) (fun x hx => by simp at hx; subst hx; exact Hwf.out)).mono ?_; rw [hf]; rintro _ w2 ⟨rfl, hx2⟩; have hx12 := Keeps.trans ((Keeps.refl (fun _ => True) w1).alloc _) hx2; have g2 := Ext.blk hx12 Hg1.out; clear r0 r1 r2 r3 r4; have r0 := blk_cell g2 0 rfl; have r1 := blk_cell g2 1 rfl; have r2 := blk_cell g2 2 rfl; have r3 := blk_cell g2 3 rfl; have r4 := blk_cell g2 4 rfl; have Hg2 := Lib.hid g2; have Hx2 := Lib.hid (Hx1.out.trans hx12); clear hx2 hx12 g2))
    go_ret
    exact ⟨rfl, Hx2.out⟩
  cases hm : mayT t
  · go_enter Tryd.func7, Tryd.ntmps7
    go_wp2_with (first | (go_at_call 11; refine (law_lives _).mono ?_; rintro _ w1 ⟨rfl, hx1⟩; have g1 := hx1.blk (blk_new w _); have r0 := blk_cell g1 0 rfl; have r1 := blk_cell g1 1 rfl; have r2 := blk_cell g1 2 rfl; have r3 := blk_cell g1 3 rfl; have r4 := blk_cell g1 4 rfl; have Hg1 := Lib.hid g1; have Hx1 := Lib.hid (Keeps.trans ((Keeps.refl (fun _ => True) w).alloc _) hx1); clear hx1 g1) | (go_at_call 12; refine (law_few (some ⟨w1.heap.size, 0, none⟩) 1 1 [t] (fun _ => True) _ (one_tr t (blk_new w1 _) trivial hc ((Hs.out.ext Hx1.out).alloc _)) (by decide) (fun x hx => by simp at hx; subst hx; exact Hwf.out)).mono ?_; rw [hf]; rintro _ w2 ⟨rfl, hx2⟩; have hx12 := Keeps.trans ((Keeps.refl (fun _ => True) w1).alloc _) hx2; have g2 := Ext.blk hx12 Hg1.out; clear r0 r1 r2 r3 r4; have r0 := blk_cell g2 0 rfl; have r1 := blk_cell g2 1 rfl; have r2 := blk_cell g2 2 rfl; have r3 := blk_cell g2 3 rfl; have r4 := blk_cell g2 4 rfl; have Hg2 := Lib.hid g2; have Hx2 := Lib.hid (Hx1.out.trans hx12); clear hx2 hx12 g2) | (go_at_call 13; refine (law_to t A c _).mono ?_; rintro _ w3 ⟨rfl, hx3⟩; have Hx3 := Lib.hid (Hx2.out.trans hx3); have g3 := Ext.blk hx3 Hg2.out; have Hg3 := Lib.hid g3; clear hx3 g3) | (go_at_call 16; refine (tr_May t A c (fun _ => True) _ (Hs.out.ext Hx3.out) hc Hwf.out).mono ?_; rw [hm]; rintro _ w4 ⟨rfl, hx4⟩; have g4 := hx4.blk Hg3.out; clear r0 r1 r2 r3 r4; have r0 := blk_cell g4 0 rfl; have r1 := blk_cell g4 1 rfl; have r2 := blk_cell g4 2 rfl; have r3 := blk_cell g4 3 rfl; have r4 := blk_cell g4 4 rfl; have Hg4 := Lib.hid g4; have Hx4 := Lib.hid (Hx3.out.trans hx4); clear hx4 g4))
    go_ret
    exact ⟨rfl, Hx4.out⟩
  by_cases hx30 : 30 < nx
  · go_enter Tryd.func7, Tryd.ntmps7
    go_wp2_with (first | (go_at_call 11; refine (law_lives _).mono ?_; rintro _ w1 ⟨rfl, hx1⟩; have g1 := hx1.blk (blk_new w _); have r0 := blk_cell g1 0 rfl; have r1 := blk_cell g1 1 rfl; have r2 := blk_cell g1 2 rfl; have r3 := blk_cell g1 3 rfl; have r4 := blk_cell g1 4 rfl; have Hg1 := Lib.hid g1; have Hx1 := Lib.hid (Keeps.trans ((Keeps.refl (fun _ => True) w).alloc _) hx1); clear hx1 g1) | (go_at_call 12; refine (law_few (some ⟨w1.heap.size, 0, none⟩) 1 1 [t] (fun _ => True) _ (one_tr t (blk_new w1 _) trivial hc ((Hs.out.ext Hx1.out).alloc _)) (by decide) (fun x hx => by simp at hx; subst hx; exact Hwf.out)).mono ?_; rw [hf]; rintro _ w2 ⟨rfl, hx2⟩; have hx12 := Keeps.trans ((Keeps.refl (fun _ => True) w1).alloc _) hx2; have g2 := Ext.blk hx12 Hg1.out; clear r0 r1 r2 r3 r4; have r0 := blk_cell g2 0 rfl; have r1 := blk_cell g2 1 rfl; have r2 := blk_cell g2 2 rfl; have r3 := blk_cell g2 3 rfl; have r4 := blk_cell g2 4 rfl; have Hg2 := Lib.hid g2; have Hx2 := Lib.hid (Hx1.out.trans hx12); clear hx2 hx12 g2) | (go_at_call 13; refine (law_to t A c _).mono ?_; rintro _ w3 ⟨rfl, hx3⟩; have Hx3 := Lib.hid (Hx2.out.trans hx3); have g3 := Ext.blk hx3 Hg2.out; have Hg3 := Lib.hid g3; clear hx3 g3) | (go_at_call 16; refine (tr_May t A c (fun _ => True) _ (Hs.out.ext Hx3.out) hc Hwf.out).mono ?_; rw [hm]; rintro _ w4 ⟨rfl, hx4⟩; have g4 := hx4.blk Hg3.out; clear r0 r1 r2 r3 r4; have r0 := blk_cell g4 0 rfl; have r1 := blk_cell g4 1 rfl; have r2 := blk_cell g4 2 rfl; have r3 := blk_cell g4 3 rfl; have r4 := blk_cell g4 4 rfl; have Hg4 := Lib.hid g4; have Hx4 := Lib.hid (Hx3.out.trans hx4); clear hx4 g4))
    go_ret
    exact ⟨rfl, Hx4.out⟩
  by_cases ha30 : 30 < na
  · go_enter Tryd.func7, Tryd.ntmps7
    go_wp2_with (first | (go_at_call 11; refine (law_lives _).mono ?_; rintro _ w1 ⟨rfl, hx1⟩; have g1 := hx1.blk (blk_new w _); have r0 := blk_cell g1 0 rfl; have r1 := blk_cell g1 1 rfl; have r2 := blk_cell g1 2 rfl; have r3 := blk_cell g1 3 rfl; have r4 := blk_cell g1 4 rfl; have Hg1 := Lib.hid g1; have Hx1 := Lib.hid (Keeps.trans ((Keeps.refl (fun _ => True) w).alloc _) hx1); clear hx1 g1) | (go_at_call 12; refine (law_few (some ⟨w1.heap.size, 0, none⟩) 1 1 [t] (fun _ => True) _ (one_tr t (blk_new w1 _) trivial hc ((Hs.out.ext Hx1.out).alloc _)) (by decide) (fun x hx => by simp at hx; subst hx; exact Hwf.out)).mono ?_; rw [hf]; rintro _ w2 ⟨rfl, hx2⟩; have hx12 := Keeps.trans ((Keeps.refl (fun _ => True) w1).alloc _) hx2; have g2 := Ext.blk hx12 Hg1.out; clear r0 r1 r2 r3 r4; have r0 := blk_cell g2 0 rfl; have r1 := blk_cell g2 1 rfl; have r2 := blk_cell g2 2 rfl; have r3 := blk_cell g2 3 rfl; have r4 := blk_cell g2 4 rfl; have Hg2 := Lib.hid g2; have Hx2 := Lib.hid (Hx1.out.trans hx12); clear hx2 hx12 g2) | (go_at_call 13; refine (law_to t A c _).mono ?_; rintro _ w3 ⟨rfl, hx3⟩; have Hx3 := Lib.hid (Hx2.out.trans hx3); have g3 := Ext.blk hx3 Hg2.out; have Hg3 := Lib.hid g3; clear hx3 g3) | (go_at_call 16; refine (tr_May t A c (fun _ => True) _ (Hs.out.ext Hx3.out) hc Hwf.out).mono ?_; rw [hm]; rintro _ w4 ⟨rfl, hx4⟩; have g4 := hx4.blk Hg3.out; clear r0 r1 r2 r3 r4; have r0 := blk_cell g4 0 rfl; have r1 := blk_cell g4 1 rfl; have r2 := blk_cell g4 2 rfl; have r3 := blk_cell g4 3 rfl; have r4 := blk_cell g4 4 rfl; have Hg4 := Lib.hid g4; have Hx4 := Lib.hid (Hx3.out.trans hx4); clear hx4 g4))
    go_ret
    exact ⟨rfl, Hx4.out⟩
  cases hso : all.any (fun e => bigE e 300)
  case true =>
    go_enter Tryd.func7, Tryd.ntmps7
    go_wp2_with (first | (go_at_call 11; refine (law_lives _).mono ?_; rintro _ w1 ⟨rfl, hx1⟩; have g1 := hx1.blk (blk_new w _); have r0 := blk_cell g1 0 rfl; have r1 := blk_cell g1 1 rfl; have r2 := blk_cell g1 2 rfl; have r3 := blk_cell g1 3 rfl; have r4 := blk_cell g1 4 rfl; have Hg1 := Lib.hid g1; have Hx1 := Lib.hid (Keeps.trans ((Keeps.refl (fun _ => True) w).alloc _) hx1); clear hx1 g1) | (go_at_call 12; refine (law_few (some ⟨w1.heap.size, 0, none⟩) 1 1 [t] (fun _ => True) _ (one_tr t (blk_new w1 _) trivial hc ((Hs.out.ext Hx1.out).alloc _)) (by decide) (fun x hx => by simp at hx; subst hx; exact Hwf.out)).mono ?_; rw [hf]; rintro _ w2 ⟨rfl, hx2⟩; have hx12 := Keeps.trans ((Keeps.refl (fun _ => True) w1).alloc _) hx2; have g2 := Ext.blk hx12 Hg1.out; clear r0 r1 r2 r3 r4; have r0 := blk_cell g2 0 rfl; have r1 := blk_cell g2 1 rfl; have r2 := blk_cell g2 2 rfl; have r3 := blk_cell g2 3 rfl; have r4 := blk_cell g2 4 rfl; have Hg2 := Lib.hid g2; have Hx2 := Lib.hid (Hx1.out.trans hx12); clear hx2 hx12 g2) | (go_at_call 13; refine (law_to t A c _).mono ?_; rintro _ w3 ⟨rfl, hx3⟩; have Hx3 := Lib.hid (Hx2.out.trans hx3); have g3 := Ext.blk hx3 Hg2.out; have Hg3 := Lib.hid g3; clear hx3 g3) | (go_at_call 16; refine (tr_May t A c (fun _ => True) _ (Hs.out.ext Hx3.out) hc Hwf.out).mono ?_; rw [hm]; rintro _ w4 ⟨rfl, hx4⟩; have g4 := hx4.blk Hg3.out; clear r0 r1 r2 r3 r4; have r0 := blk_cell g4 0 rfl; have r1 := blk_cell g4 1 rfl; have r2 := blk_cell g4 2 rfl; have r3 := blk_cell g4 3 rfl; have r4 := blk_cell g4 4 rfl; have Hg4 := Lib.hid g4; have Hx4 := Lib.hid (Hx3.out.trans hx4); clear hx4 g4) | (go_at_call 21; refine (HSo.out _ Hx4.out).mono ?_; rw [hso]; rintro _ w5 ⟨rfl, hx5⟩; have g5 := Ext.blk hx5 Hg4.out; clear r0 r1 r2 r3 r4; have r0 := blk_cell g5 0 rfl; have r1 := blk_cell g5 1 rfl; have r2 := blk_cell g5 2 rfl; have r3 := blk_cell g5 3 rfl; have r4 := blk_cell g5 4 rfl; have Hg5 := Lib.hid g5; have Hx5 := Lib.hid (Hx4.out.trans hx5); clear hx5 g5))
    go_ret
    exact ⟨rfl, Hx5.out⟩
  have Hsm := Lib.hid (show ∀ e ∈ all, EvSm e from fun e he => evSm_of (by have := List.any_eq_false.1 hso e he; simpa using this) (by omega))
  go_enter Tryd.func7, Tryd.ntmps7
  go_upto_region 5 with (first | (go_at_call 11; refine (law_lives _).mono ?_; rintro _ w1 ⟨rfl, hx1⟩; have g1 := hx1.blk (blk_new w _); have r0 := blk_cell g1 0 rfl; have r1 := blk_cell g1 1 rfl; have r2 := blk_cell g1 2 rfl; have r3 := blk_cell g1 3 rfl; have r4 := blk_cell g1 4 rfl; have Hg1 := Lib.hid g1; have Hx1 := Lib.hid (Keeps.trans ((Keeps.refl (fun _ => True) w).alloc _) hx1); clear hx1 g1) | (go_at_call 12; refine (law_few (some ⟨w1.heap.size, 0, none⟩) 1 1 [t] (fun _ => True) _ (one_tr t (blk_new w1 _) trivial hc ((Hs.out.ext Hx1.out).alloc _)) (by decide) (fun x hx => by simp at hx; subst hx; exact Hwf.out)).mono ?_; rw [hf]; rintro _ w2 ⟨rfl, hx2⟩; have hx12 := Keeps.trans ((Keeps.refl (fun _ => True) w1).alloc _) hx2; have g2 := Ext.blk hx12 Hg1.out; clear r0 r1 r2 r3 r4; have r0 := blk_cell g2 0 rfl; have r1 := blk_cell g2 1 rfl; have r2 := blk_cell g2 2 rfl; have r3 := blk_cell g2 3 rfl; have r4 := blk_cell g2 4 rfl; have Hg2 := Lib.hid g2; have Hx2 := Lib.hid (Hx1.out.trans hx12); clear hx2 hx12 g2) | (go_at_call 13; refine (law_to t A c _).mono ?_; rintro _ w3 ⟨rfl, hx3⟩; have Hx3 := Lib.hid (Hx2.out.trans hx3); have g3 := Ext.blk hx3 Hg2.out; have Hg3 := Lib.hid g3; clear hx3 g3) | (go_at_call 16; refine (tr_May t A c (fun _ => True) _ (Hs.out.ext Hx3.out) hc Hwf.out).mono ?_; rw [hm]; rintro _ w4 ⟨rfl, hx4⟩; have g4 := hx4.blk Hg3.out; clear r0 r1 r2 r3 r4; have r0 := blk_cell g4 0 rfl; have r1 := blk_cell g4 1 rfl; have r2 := blk_cell g4 2 rfl; have r3 := blk_cell g4 3 rfl; have r4 := blk_cell g4 4 rfl; have Hg4 := Lib.hid g4; have Hx4 := Lib.hid (Hx3.out.trans hx4); clear hx4 g4) | (go_at_call 21; refine (HSo.out _ Hx4.out).mono ?_; rw [hso]; rintro _ w5 ⟨rfl, hx5⟩; have g5 := Ext.blk hx5 Hg4.out; clear r0 r1 r2 r3 r4; have r0 := blk_cell g5 0 rfl; have r1 := blk_cell g5 1 rfl; have r2 := blk_cell g5 2 rfl; have r3 := blk_cell g5 3 rfl; have r4 := blk_cell g5 4 rfl; have Hg5 := Lib.hid g5; have Hx5 := Lib.hid (Hx4.out.trans hx5); clear hx5 g5))
  go_upto_region 7 with (go_at_call 13; refine (law_to t A c _).mono ?_; rintro _ w6 ⟨rfl, hx6⟩; have Hx6 := Lib.hid (Hx5.out.trans hx6); have g6 := Ext.blk hx6 Hg5.out; have Hg6 := Lib.hid g6; clear hx6 g6)
  clear r0 r1 r2 r3 r4 hso
  obtain ⟨g8, hg8⟩ : ∃ g8, g8 = w6.heap.size + 1 := ⟨_, rfl⟩
  rw [← hg8]
  obtain ⟨X, hX⟩ : ∃ X, X = (w6.alloc (Obj.cells #[.string t.name, .string t.layer, .int .i64 t.lo, .int .i64 t.hi, .slice (some ⟨g8, 0, none⟩) 1 1] 29)).alloc (Obj.cells #[.string allB] 9) := ⟨_, rfl⟩
  rw [show (⟨#[97, 108, 108]⟩ : ByteArray) = allB from rfl, ← hX]
  have HxX := Lib.hid (show Ext w X by rw [hX]; exact (Hx6.out.alloc _).alloc _)
  have hgt : X.heap[w.heap.size]? = some (.cells #[.string t.name, .string t.layer, .int .i64 t.lo, .int .i64 t.hi, .slice A t.arms.length c] 24) := by rw [hX]; exact blk_old (blk_old Hg6.out _) _
  have hgo : X.heap[w6.heap.size]? = some (.cells #[.string t.name, .string t.layer, .int .i64 t.lo, .int .i64 t.hi, .slice (some ⟨g8, 0, none⟩) 1 1] 29) := by rw [hX]; exact blk_old (blk_new _ _) _
  have hgs : X.heap[g8]? = some (.cells #[.string allB] 9) := by rw [hX, hg8]; exact blk_new' _ _ _ (by simp)
  have Hsl8 := Lib.hid (show Sl strR (fun _ => True) X (some ⟨g8, 0, none⟩) 1 [allB] from Sl.new_strs hgs trivial rfl rfl)
  have Hgt := Lib.hid hgt
  have Hgo := Lib.hid hgo
  obtain ⟨g7, hg7⟩ : ∃ g7, g7 = w6.heap.size := ⟨_, rfl⟩
  rw [← hg7] at Hgo ⊢
  have r0 := blk_cell hgt 0 rfl
  have r1 := blk_cell hgt 1 rfl
  have r2 := blk_cell hgt 2 rfl
  have r3 := blk_cell hgt 3 rfl
  have r4 := blk_cell hgt 4 rfl
  have hwX : w.heap.size < X.heap.size := (Array.getElem?_eq_some_iff.1 hgt).1
  clear hX hgt hgo hgs hg7 hg8 Hg6 Hx6 Hg5 Hx5 Hg4 Hx4 Hg3 Hx3 Hg2 Hx2 Hg1 Hx1
  have Hm := Lib.hid hm
  have Hm1 := Lib.hid (mayT_one hm)
  have hpt := mayT_parts hm
  have hone := hpt.one
  have hfew := hpt.few
  have Hwf1 := Lib.hid (show TrWf (oneT t) from ⟨Hwf.out.name, Hwf.out.layer, by simp [oneT], fun s hs => by simp [oneT] at hs; subst hs; decide⟩)
  clear hpt hm hf
  go_upto_region 8 with (first
    | (go_at_call 13; refine (law_to t A c _).mono ?_; rintro _ w7 ⟨rfl, hx7⟩; have Hx7 := Lib.hid hx7; clear hx7)
    | (go_at_call 27; go_loud (refine (new_ok (some ⟨w7.heap.size, 0, none⟩) 1 1 [t] (fun _ => True) _ (one_tr t (blk_new w7 _) trivial hc (((Hs.out.ext HxX.out).ext Hx7.out).alloc _)) (by decide) (fun y hy => by simp at hy; subst hy; exact Hwf.out) (by simp [Hm.out]) (one_clash t)).mono ?_; rintro _ w8 ⟨b, m, lim, v, rfl, hmw, hbk, hx8⟩; have hx9 := Keeps.trans (Hx7.out.alloc _) hx8; have HmX := Lib.hid (show X.heap.size ≤ m from Nat.le_trans Hx7.out.size (Nat.le_trans (by simp) hmw)); have Hbk := Lib.hid hbk; have g9 := Ext.blk hx9 Hgo.out; have u0 := blk_cell g9 0 rfl; have u1 := blk_cell g9 1 rfl; have u2 := blk_cell g9 2 rfl; have u3 := blk_cell g9 3 rfl; have u4 := blk_cell g9 4 rfl; have Hx8 := Lib.hid hx9; clear hbk hmw hx8 hx9 g9)))
  clear r0 r1 r2 r3 r4
  go_upto_region 9 with (go_at_call 27; go_loud (refine (new_ok (some ⟨w8.heap.size, 0, none⟩) 1 1 [oneT t] (fun _ => True) _ (one_tr (oneT t) (blk_new w8 _) trivial (by simp [oneT]) ((Hsl8.out.ext Hx8.out).alloc _)) (by decide) (fun y hy => by simp at hy; subst hy; exact Hwf1.out) (by simp [Hm1.out]) (one_clash _)).mono ?_; rintro _ w9 ⟨b', m', lim', v', rfl, hmw, hbk, hx9⟩; have hx10 := Keeps.trans ((Keeps.refl (fun _ => True) w8).alloc _) hx9; have HT := Lib.hid (show TwoAt X w9 b m lim v [t] b' m' lim' v' [oneT t] [] [] (fun _ => []) (fun _ => []) from ⟨Hbk.out.ext hx10, hbk, by have := Hbk.out.lw; have h2 : w8.heap.size ≤ m' := Nat.le_trans (by simp) hmw; omega, (fun _ hp => absurd hp (by simp)), (fun _ hp => absurd hp (by simp)), Hx8.out.trans hx10, HmX.out⟩); clear hbk hmw hx9 hx10 u0 u1 u2 u3 u4))
  go_wp2_with fail
  go_loopw [12] (fun i wr => ∃ (k : Nat) (outer outer' : List (ByteArray × Nat)), k ≤ nx ∧ i = .int .i64 k ∧ TwoAt X wr b m lim v [t] b' m' lim' v' [oneT t] outer outer' (xsOf (hadOf [t] (expA t (x.take k)))) (xsOf (hadOf [t] (expA t (x.take k))))) (fun i _ => nx - (intOf i).toNat)
  case atStart => exact ⟨0, [], [], Nat.zero_le _, rfl, HT.out⟩
  case round =>
    obtain ⟨k, outer, outer', hk, rfl, hat⟩ := hrel
    have Hat := Lib.hid hat
    have Hx := Lib.hid hat.ext
    clear hat
    by_cases hlt : k < nx
    · obtain ⟨bx, ox, e, rfl, hbx, hox, he, _, d1, d2⟩ := (Hsx.out.ext HxX.out).xp hlt
      have He := Lib.hid he
      have hp1 := Hxt.out e (List.mem_of_getElem? he)
      have hp2 : e.person.size < maxLen := lt_maxLen hp1
      have i0 : (0 : Int) ≤ (k : Int) := by omega
      have i1 : (k : Int) < (nx : Int) := by omega
      have y1 := (Hx.out.cell (p := ⟨bx, ox + k * 3 + 1, none⟩) hbx trivial).trans d1
      have Hd1 := Lib.hid d1
      have Hd2 := Lib.hid d2
      clear he d1 d2
      by_cases h9 : 300 < e.person.size
      · go_wp2_with fail
        go_ret
        exact ⟨rfl, HxX.out.trans Hx.out⟩
      go_upto_region 16 with fail
      have d1 := Hd1.out
      have d2 := Hd2.out
      have r0 := blk_cell Hgt.out 0 rfl
      have Hor := Lib.hid (Old.of_ext Hx.out)
      have HA := Lib.hid (fun (W : World) (h : Ext wr W) => bk_Expose b m lim v outer [t] _ ⟨t.name, e.person, e.tick⟩ W (Hat.out.bk.ext h) (by simp) (fun y hy => by simp at hy; subst hy; exact Hwf.out) hp2)
      have HB := Lib.hid (fun (o2 : List (ByteArray × Nat)) (xs2 : ByteArray → List (ByteArray × Int)) (W W2 : World) (h : TwoAt X W b m lim v [t] b' m' lim' v' [oneT t] o2 outer' xs2 (xsOf (hadOf [t] (expA t (x.take k))))) (hx : Ext W W2) => bk_Expose b' m' lim' v' outer' [oneT t] _ ⟨t.name, e.person, e.tick⟩ W2 (h.bk'.ext hx) (by simp) (fun y hy => by simp at hy; subst hy; exact Hwf1.out) hp2)
      rw [okX_one Hm.out] at HB
      have Hxs := Lib.hid (xsOf_more t (expA t (x.take k)) ⟨t.name, e.person, e.tick⟩)
      rw [← expA_take He.out] at Hxs
      obtain ⟨q, hq⟩ : ∃ q, okX [t] ⟨t.name, e.person, e.tick⟩ = q := ⟨_, rfl⟩
      rw [hq] at HA HB Hxs
      clear y1 hq
      cases q
      all_goals
        go_region_held3 (fun w' => X.heap.size ≤ w'.heap.size ∧ ∀ p : Addr, p.block < X.heap.size → w'.cell? p = X.cell? p) (repeat (first | with_reducible assumption | with_reducible exact Hor.out | with_reducible refine Old.drew ?_)) (first
          | (go_at_call 24; (with_reducible refine (HA.out _ (by repeat (first | with_reducible exact Keeps.refl _ _ | with_reducible refine Keeps.drew ?_ | with_reducible refine Keeps.drewN ?_ _ | with_reducible refine Keeps.alloc ?_ _))).mono ?_); rintro _ w10 ⟨rfl, o2, hb10, hk10, ho10⟩; have hat10 := (Hat.out.on (by repeat (first | with_reducible exact Keeps.refl _ _ | with_reducible refine Keeps.drew ?_ | with_reducible refine Keeps.drewN ?_ _ | with_reducible refine Keeps.alloc ?_ _))).stepA hb10 hk10 ho10; have hor10 : Old X w10 := Old.of_ext hat10.ext)
          | (go_at_call 24; (with_reducible refine (HB.out _ _ _ _ hat10 (by repeat (first | with_reducible exact Keeps.refl _ _ | with_reducible refine Keeps.drew ?_ | with_reducible refine Keeps.drewN ?_ _ | with_reducible refine Keeps.alloc ?_ _))).mono ?_); rintro _ w11 ⟨rfl, o3, hb11, hk11, ho11⟩; have hat11 := (hat10.on (by repeat (first | with_reducible exact Keeps.refl _ _ | with_reducible refine Keeps.drew ?_ | with_reducible refine Keeps.drewN ?_ _ | with_reducible refine Keeps.alloc ?_ _))).stepB hb11 hk11 ho11; have hor11 : Old X w11 := Old.of_ext hat11.ext))
        all_goals
          have Hat11 := Lib.hid (show TwoAt X w11 b m lim v [t] b' m' lim' v' [oneT t] o2 o3 (xsOf (hadOf [t] (expA t (x.take (k + 1))))) (xsOf (hadOf [t] (expA t (x.take (k + 1))))) by rw [Hxs.out]; exact hat11)
          clear hb10 hk10 ho10 hat10 hor10 hb11 hk11 ho11 hat11 hor11 d1 d2 r0
          go_wp2_with fail
          go_roundw
          case rel => exact ⟨k + 1, o2, o3, by omega, by go_num, Hat11.out⟩
          case measure => simp [intOf]; omega
    · obtain rfl : k = nx := by omega
      have HF := Lib.hid (List.take_of_length_le (Nat.le_of_eq Hlx.out))
      obtain ⟨had, hhad⟩ : ∃ had, had = hadOf [t] (expA t x) := ⟨_, rfl⟩
      have hps : ∀ y ∈ expA t x, y.person.size < maxLen := fun y hy => by
        unfold expA at hy
        obtain ⟨z, hz, rfl⟩ := List.mem_map.1 hy
        exact lt_maxLen (Hxt.out z hz)
      have HH := Lib.hid (show HadOk [t] had by rw [hhad]; exact hadOf_ok hps)
      have HH1 := Lib.hid (show HadOk [oneT t] had by rw [hhad, ← hadOf_one Hm.out]; exact hadOf_ok hps)
      have Hb := Hat.out.bk
      have Hb' := Hat.out.bk'
      rw [HF.out, ← hhad] at Hb Hb'
      have hlh : had.length ≤ 30 := by
        rw [hhad]
        have h1 := hadOf_len [t] (expA t x)
        have h2 : (expA t x).length = x.length := by unfold expA; rw [List.length_map]
        have := Hlx.out
        omega
      have hrl : (repL [t] had t.name all).length = t.arms.length := by rw [repL_some (i := 0) (by simp [List.findIdx?_cons, beq_bytes.2 (rfl : t.name = t.name)]) rfl, rowsE_len]
      have hr1 : repL [oneT t] had t.name all = [⟨allB, ((peopleX had t.name).length : Nat), (bghtA (cntL (xsOf had t.name) all) : Nat), wrthA (cntL (xsOf had t.name) all)⟩] := by
        rw [repL_some (i := 0) (t := oneT t) (by simp [List.findIdx?_cons, oneT, beq_bytes.2 (rfl : t.name = t.name)]) rfl, rowsE_one]
      have HR := Lib.hid (fun (W : World) (h : Ext wr W) => bk_Report_any b m lim v outer [t] had t.name W (Hb.ext h) (by simp) (by simp [Hm.out]) (fun y hy => by simp at hy; subst hy; exact Hwf.out) HH.out (by omega) Aa na ca all ok (((Hsa.out.ext HxX.out).ext Hx.out).ext h) (by omega) Hsm.out (((Hmx.out.ext HxX.out).ext Hx.out).ext h))
      have HR2 := Lib.hid (fun (W : World) (h : Ext wr W) => bk_Report_any b' m' lim' v' outer' [oneT t] had t.name W (Hb'.ext h) (by simp) (by simp [Hm1.out]) (fun y hy => by simp at hy; subst hy; exact Hwf1.out) HH1.out (by omega) Aa na ca all ok (((Hsa.out.ext HxX.out).ext Hx.out).ext h) (by omega) Hsm.out (((Hmx.out.ext HxX.out).ext Hx.out).ext h))
      rw [hrl] at HR
      rw [hr1] at HR2
      obtain ⟨ds, hds⟩ : ∃ ds, ds = peopleX had t.name := ⟨_, rfl⟩
      obtain ⟨cs, hcs⟩ : ∃ cs, cs = cntL (xsOf had t.name) all := ⟨_, rfl⟩
      have hR : repL [t] had t.name all = rowsE t ds cs := by rw [repL_some (i := 0) (by simp [List.findIdx?_cons, beq_bytes.2 (rfl : t.name = t.name)]) rfl, hds, hcs]
      have hdl : ds.length ≤ 30 := by
        rw [hds]; unfold peopleX; rw [List.length_map]; exact Nat.le_trans (xs_len had t.name) hlh
      have hcl : cs.length ≤ 30 := by
        rw [hcs]; have h1 := cntL_len (xsOf had t.name) all; have := Hsa.out.1; omega
      have Hcm := Lib.hid (show ∀ e ∈ cs, mayE e = true by rw [hcs]; exact cntL_may _ _)
      rw [hR] at HR
      rw [← hds, ← hcs] at HR2
      obtain ⟨V, hV⟩ : ∃ V, V = wr := ⟨_, rfl⟩
      rw [← hV] at HR HR2 Hx ⊢
      have gtV := Ext.blk Hx.out Hgt.out
      have r0 := blk_cell gtV 0 rfl
      have r4 := blk_cell gtV 4 rfl
      have HgV := Lib.hid gtV
      have hltV : w.heap.size < V.heap.size := (Array.getElem?_eq_some_iff.1 gtV).1
      clear hhad hps Hb Hb' hrl hr1 hds hcs hR hV gtV Hat
      go_upto_region 18 with fail
      go_region_held3 (fun w' => V.heap.size ≤ w'.heap.size ∧ ∀ p : Addr, p.block < V.heap.size → w'.cell? p = V.cell? p) (repeat (first | with_reducible assumption | with_reducible exact Old.refl _ | with_reducible refine Old.drew ?_)) (first
          | (go_at_call 25; (with_reducible refine (HR.out _ (by repeat (first | with_reducible exact Keeps.refl _ _ | with_reducible refine Keeps.drew ?_ | with_reducible refine Keeps.drewN ?_ _ | with_reducible refine Keeps.alloc ?_ _))).mono ?_); rintro _ w10 ⟨G1, c1, rfl, hs1, hx10⟩; have hy10 : Ext V w10 := Keeps.trans (by repeat (first | with_reducible exact Keeps.refl _ _ | with_reducible refine Keeps.drew ?_ | with_reducible refine Keeps.drewN ?_ _ | with_reducible refine Keeps.alloc ?_ _)) hx10; have ho10 : Old V w10 := Old.of_ext hy10)
          | (go_at_call 25; (with_reducible refine (HR2.out _ (by repeat (first | with_reducible exact hy10 | with_reducible exact Keeps.refl _ _ | with_reducible refine Keeps.drew ?_ | with_reducible refine Keeps.drewN ?_ _ | with_reducible refine Keeps.alloc ?_ _))).mono ?_); rintro _ w11 ⟨G2, c2, rfl, hs2, hx11⟩; have hz11 : Ext w10 w11 := Keeps.trans (by repeat (first | with_reducible exact Keeps.refl _ _ | with_reducible refine Keeps.drew ?_ | with_reducible refine Keeps.drewN ?_ _ | with_reducible refine Keeps.alloc ?_ _)) hx11; have hy11 : Ext V w11 := Keeps.trans hy10 hz11; have ho11 : Old V w11 := Old.of_ext hy11))
      all_goals
        have Hs1 := Lib.hid (hs1.ext hz11)
        have Hs2 := Lib.hid hs2
        have Hx11 := Lib.hid hy11
        have g11 := Ext.blk hy11 HgV.out
        clear hs1 hx10 hy10 ho10 hs2 hx11 hz11 hy11 ho11 g11
        go_wp2_with fail
        obtain ⟨gb, hgb⟩ : ∃ gb, gb = w11.heap.size := ⟨_, rfl⟩
        have Hgb := Lib.hid hgb
        rw [← hgb, show (⟨#[97, 108, 108]⟩ : ByteArray) = allB from rfl]
        clear hgb r0 r4
        go_loopw [16] (fun i wr => ∃ q : Nat, q ≤ t.arms.length ∧ i = .int .i64 q ∧ wr.heap[gb]? = some (.cells #[.string allB, .int .i64 (pplLt t ds q : Nat), .int .i64 (bghtLt t cs q : Nat), .int .i64 (wrthLt t q cs)] 52) ∧ Ext w11 wr) (fun i _ => t.arms.length - (intOf i).toNat)
        case atStart => exact ⟨0, Nat.zero_le _, rfl, by rw [pplLt_zero t hone, bghtLt_zero t hone, wrthLt_zero t hone, Hgb.out]; exact blk_new _ _, (Keeps.refl _ _).alloc _⟩
        case round =>
          obtain ⟨q, hq, rfl, hbox, hxr⟩ := hrel
          have Hxr := Lib.hid hxr
          have e0 := blk_cell hbox 0 rfl
          have e1 := blk_cell hbox 1 rfl
          have e2 := blk_cell hbox 2 rfl
          have e3 := blk_cell hbox 3 rfl
          have fb := blk_free hbox
          have Hbox := Lib.hid hbox
          have hgl : gb < wr.heap.size := (Array.getElem?_eq_some_iff.1 hbox).1
          clear hxr hbox
          by_cases hql : q < t.arms.length
          · obtain ⟨br, or, r, rfl, hbr, hokr, hr, z0, z1, z2, z3⟩ := (Hs1.out.mono (ok' := fun g => g < w11.heap.size) (fun _ h _ => h)).rw hql
            have hra := rowsE_at (ds := ds) (cs := cs) (List.getElem?_eq_getElem hql)
            rw [hr] at hra
            obtain rfl := Option.some.inj hra
            have q0 : (0 : Int) ≤ (q : Int) := by omega
            have q1 : (q : Int) < (t.arms.length : Int) := by omega
            have s1 := pplLt_step t q ds
            have s2 := bghtLt_step t q cs
            have s3 := wrthLt_step t q cs
            have l1 := pplLt_len t ds (q + 1)
            have l2 := bghtLt_len t cs (q + 1)
            have l3 := wrthLt_in t (q + 1) cs Hcm.out
            dsimp only at z0 z1 z2 z3
            generalize t.arms[q] = ra at z0
            obtain ⟨P, hP⟩ : ∃ P, P = pplLt t ds q := ⟨_, rfl⟩
            obtain ⟨B, hB⟩ : ∃ B, B = bghtLt t cs q := ⟨_, rfl⟩
            obtain ⟨Z, hZ⟩ : ∃ Z, Z = wrthLt t q cs := ⟨_, rfl⟩
            obtain ⟨dp, hdp⟩ : ∃ dp, dp = ds.countP (fun d => armNo t d == (q : Int)) := ⟨_, rfl⟩
            obtain ⟨db, hdb⟩ : ∃ db, db = bghtN t cs q := ⟨_, rfl⟩
            obtain ⟨dz, hdz⟩ : ∃ dz, dz = wrthN t q cs := ⟨_, rfl⟩
            rw [← hP, ← hdp] at s1
            rw [← hB, ← hdb] at s2
            rw [← hZ, ← hdz] at s3
            rw [← hP] at e1
            rw [← hB] at e2
            rw [← hZ] at e3
            rw [← hdp] at z1
            rw [← hdb] at z2
            rw [← hdz] at z3
            rw [← hP, ← hB, ← hZ] at Hbox
            have Hs1' := Lib.hid s1
            have Hs2' := Lib.hid s2
            have Hs3' := Lib.hid s3
            have a1 : IntKind.i64.wrap ((P : Int) + (dp : Int)) = (P : Int) + (dp : Int) := IntWalk.i64_in _ (by omega)
            have a2 : IntKind.i64.wrap ((B : Int) + (db : Int)) = (B : Int) + (db : Int) := IntWalk.i64_in _ (by omega)
            have a3 : IntKind.i64.wrap (Z + dz) = Z + dz := IntWalk.i64_in _ (by omega)
            clear hr hP hB hZ hdp hdb hdz s1 s2 s3 l1 l2 l3
            go_upto_region 25 with fail
            have Hor := Lib.hid (Old.of_ext Hxr.out)
            have hgb2 : w11.heap.size ≤ gb := Nat.le_of_eq Hgb.out.symm
            refine wp_region_held_drew (S := fun w' => w11.heap.size ≤ w'.heap.size ∧ ∀ p : Addr, p.block < w11.heap.size → w'.cell? p = w11.cell? p) (by kernel_rfl) (by repeat (first | with_reducible assumption | with_reducible exact Hor.out | with_reducible refine Old.drew ?_ | (with_reducible refine Old.setCell ?_ (by first | exact hgb2 | (simp; omega)) _))) (fun hHeld => ?_)
            change wpAnyH _ _ _ _ _ _ #[false, false, false, false, false, false, false, false, false, false, false, false, false, false, false, false, false, false, false, false, false, false, false, false, false, false, false, false, false, false] _ _
            try simp only [Act.put, List.setIfInBounds_toArray, List.set_cons_zero, List.set_cons_succ]
            refine wpAnyH_take (i := 0) (oi := { dst := some 144, op := Go.Op.fieldAddr 52 (Go.Operand.tmp 15) 1, type := 0, pos := "law.go:266", after := #[], guard := none }) (v := ?_) rfl (by kernel_rfl) (by kernel_rfl) (by kernel_rfl) (fun _ _ _ h => h) (Or.inl ⟨by rfl, ?_⟩) (by assumption) ?_
            rotate_left
            · intro w hSw
              (try dsimp only at hSw)
              go_simp
              all_goals (with_reducible rfl)
            try simp only [Act.put, List.setIfInBounds_toArray, List.set_cons_zero, List.set_cons_succ]
            refine wpAnyH_take (i := 2) (oi := { dst := some 146, op := Go.Op.move (Go.Operand.tmp 13), type := 47, pos := "law.go:266", after := #[], guard := none }) (v := ?_) rfl (by kernel_rfl) (by kernel_rfl) (by kernel_rfl) (fun _ _ _ h => h) (Or.inl ⟨by rfl, ?_⟩) (by assumption) ?_
            rotate_left
            · intro w hSw
              (try dsimp only at hSw)
              go_simp
              all_goals (with_reducible rfl)
            try simp only [Act.put, List.setIfInBounds_toArray, List.set_cons_zero, List.set_cons_succ]
            refine wpAnyH_take (i := 3) (oi := { dst := some 147, op := Go.Op.move (Go.Operand.tmp 16), type := 3, pos := "law.go:266", after := #[], guard := none }) (v := ?_) rfl (by kernel_rfl) (by kernel_rfl) (by kernel_rfl) (fun _ _ _ h => h) (Or.inl ⟨by rfl, ?_⟩) (by assumption) ?_
            rotate_left
            · intro w hSw
              (try dsimp only at hSw)
              go_simp
              all_goals (with_reducible rfl)
            try simp only [Act.put, List.setIfInBounds_toArray, List.set_cons_zero, List.set_cons_succ]
            refine wpAnyH_take (i := 4) (oi := { dst := some 148, op := Go.Op.indexAddr 47 (Go.Operand.tmp 146) (Go.Operand.tmp 147), type := 0, pos := "law.go:266", after := #[{ on := 2, ground := Go.Ground.data }, { on := 3, ground := Go.Ground.data }], guard := none }) (v := ?_) rfl (by kernel_rfl) (by kernel_rfl) (by kernel_rfl) (fun _ _ _ h => h) (Or.inl ⟨by rfl, ?_⟩) (by assumption) ?_
            rotate_left
            · intro w hSw
              (try dsimp only at hSw)
              go_simp
              all_goals (with_reducible rfl)
            try simp only [Act.put, List.setIfInBounds_toArray, List.set_cons_zero, List.set_cons_succ]
            refine wpAnyH_take (i := 5) (oi := { dst := some 149, op := Go.Op.fieldAddr 52 (Go.Operand.tmp 148) 1, type := 0, pos := "law.go:266", after := #[{ on := 4, ground := Go.Ground.data }], guard := none }) (v := ?_) rfl (by kernel_rfl) (by kernel_rfl) (by kernel_rfl) (fun _ _ _ h => h) (Or.inl ⟨by rfl, ?_⟩) (by assumption) ?_
            rotate_left
            · intro w hSw
              (try dsimp only at hSw)
              go_simp
              all_goals (with_reducible rfl)
            try simp only [Act.put, List.setIfInBounds_toArray, List.set_cons_zero, List.set_cons_succ]
            refine wpAnyH_take (i := 6) (oi := { dst := some 150, op := Go.Op.load 3 (Go.Operand.tmp 149), type := 3, pos := "law.go:266", after := #[{ on := 5, ground := Go.Ground.data }], guard := none }) (v := ?_) rfl (by kernel_rfl) (by kernel_rfl) (by kernel_rfl) (fun _ _ _ h => h) (Or.inl ⟨by rfl, ?_⟩) (by assumption) ?_
            rotate_left
            · intro w hSw
              (try dsimp only at hSw)
              go_simp
              all_goals (with_reducible rfl)
            try simp only [Act.put, List.setIfInBounds_toArray, List.set_cons_zero, List.set_cons_succ]
            refine wpAnyH_take (i := 8) (oi := { dst := some 152, op := Go.Op.fieldAddr 52 (Go.Operand.tmp 15) 2, type := 0, pos := "law.go:266", after := #[], guard := none }) (v := ?_) rfl (by kernel_rfl) (by kernel_rfl) (by kernel_rfl) (fun _ _ _ h => h) (Or.inl ⟨by rfl, ?_⟩) (by assumption) ?_
            rotate_left
            · intro w hSw
              (try dsimp only at hSw)
              go_simp
              all_goals (with_reducible rfl)
            try simp only [Act.put, List.setIfInBounds_toArray, List.set_cons_zero, List.set_cons_succ]
            refine wpAnyH_take (i := 10) (oi := { dst := some 154, op := Go.Op.move (Go.Operand.tmp 13), type := 47, pos := "law.go:266", after := #[], guard := none }) (v := ?_) rfl (by kernel_rfl) (by kernel_rfl) (by kernel_rfl) (fun _ _ _ h => h) (Or.inl ⟨by rfl, ?_⟩) (by assumption) ?_
            rotate_left
            · intro w hSw
              (try dsimp only at hSw)
              go_simp
              all_goals (with_reducible rfl)
            try simp only [Act.put, List.setIfInBounds_toArray, List.set_cons_zero, List.set_cons_succ]
            refine wpAnyH_take (i := 11) (oi := { dst := some 155, op := Go.Op.move (Go.Operand.tmp 16), type := 3, pos := "law.go:266", after := #[], guard := none }) (v := ?_) rfl (by kernel_rfl) (by kernel_rfl) (by kernel_rfl) (fun _ _ _ h => h) (Or.inl ⟨by rfl, ?_⟩) (by assumption) ?_
            rotate_left
            · intro w hSw
              (try dsimp only at hSw)
              go_simp
              all_goals (with_reducible rfl)
            try simp only [Act.put, List.setIfInBounds_toArray, List.set_cons_zero, List.set_cons_succ]
            refine wpAnyH_take (i := 12) (oi := { dst := some 156, op := Go.Op.indexAddr 47 (Go.Operand.tmp 154) (Go.Operand.tmp 155), type := 0, pos := "law.go:266", after := #[{ on := 10, ground := Go.Ground.data }, { on := 11, ground := Go.Ground.data }], guard := none }) (v := ?_) rfl (by kernel_rfl) (by kernel_rfl) (by kernel_rfl) (fun _ _ _ h => h) (Or.inl ⟨by rfl, ?_⟩) (by assumption) ?_
            rotate_left
            · intro w hSw
              (try dsimp only at hSw)
              go_simp
              all_goals (with_reducible rfl)
            try simp only [Act.put, List.setIfInBounds_toArray, List.set_cons_zero, List.set_cons_succ]
            refine wpAnyH_take (i := 13) (oi := { dst := some 157, op := Go.Op.fieldAddr 52 (Go.Operand.tmp 156) 2, type := 0, pos := "law.go:266", after := #[{ on := 12, ground := Go.Ground.data }], guard := none }) (v := ?_) rfl (by kernel_rfl) (by kernel_rfl) (by kernel_rfl) (fun _ _ _ h => h) (Or.inl ⟨by rfl, ?_⟩) (by assumption) ?_
            rotate_left
            · intro w hSw
              (try dsimp only at hSw)
              go_simp
              all_goals (with_reducible rfl)
            try simp only [Act.put, List.setIfInBounds_toArray, List.set_cons_zero, List.set_cons_succ]
            refine wpAnyH_take (i := 14) (oi := { dst := some 158, op := Go.Op.load 3 (Go.Operand.tmp 157), type := 3, pos := "law.go:266", after := #[{ on := 13, ground := Go.Ground.data }], guard := none }) (v := ?_) rfl (by kernel_rfl) (by kernel_rfl) (by kernel_rfl) (fun _ _ _ h => h) (Or.inl ⟨by rfl, ?_⟩) (by assumption) ?_
            rotate_left
            · intro w hSw
              (try dsimp only at hSw)
              go_simp
              all_goals (with_reducible rfl)
            try simp only [Act.put, List.setIfInBounds_toArray, List.set_cons_zero, List.set_cons_succ]
            refine wpAnyH_take (i := 16) (oi := { dst := some 160, op := Go.Op.fieldAddr 52 (Go.Operand.tmp 15) 3, type := 0, pos := "law.go:266", after := #[], guard := none }) (v := ?_) rfl (by kernel_rfl) (by kernel_rfl) (by kernel_rfl) (fun _ _ _ h => h) (Or.inl ⟨by rfl, ?_⟩) (by assumption) ?_
            rotate_left
            · intro w hSw
              (try dsimp only at hSw)
              go_simp
              all_goals (with_reducible rfl)
            try simp only [Act.put, List.setIfInBounds_toArray, List.set_cons_zero, List.set_cons_succ]
            refine wpAnyH_take (i := 18) (oi := { dst := some 162, op := Go.Op.move (Go.Operand.tmp 13), type := 47, pos := "law.go:266", after := #[], guard := none }) (v := ?_) rfl (by kernel_rfl) (by kernel_rfl) (by kernel_rfl) (fun _ _ _ h => h) (Or.inl ⟨by rfl, ?_⟩) (by assumption) ?_
            rotate_left
            · intro w hSw
              (try dsimp only at hSw)
              go_simp
              all_goals (with_reducible rfl)
            try simp only [Act.put, List.setIfInBounds_toArray, List.set_cons_zero, List.set_cons_succ]
            refine wpAnyH_take (i := 19) (oi := { dst := some 163, op := Go.Op.move (Go.Operand.tmp 16), type := 3, pos := "law.go:266", after := #[], guard := none }) (v := ?_) rfl (by kernel_rfl) (by kernel_rfl) (by kernel_rfl) (fun _ _ _ h => h) (Or.inl ⟨by rfl, ?_⟩) (by assumption) ?_
            rotate_left
            · intro w hSw
              (try dsimp only at hSw)
              go_simp
              all_goals (with_reducible rfl)
            try simp only [Act.put, List.setIfInBounds_toArray, List.set_cons_zero, List.set_cons_succ]
            refine wpAnyH_take (i := 20) (oi := { dst := some 164, op := Go.Op.indexAddr 47 (Go.Operand.tmp 162) (Go.Operand.tmp 163), type := 0, pos := "law.go:266", after := #[{ on := 18, ground := Go.Ground.data }, { on := 19, ground := Go.Ground.data }], guard := none }) (v := ?_) rfl (by kernel_rfl) (by kernel_rfl) (by kernel_rfl) (fun _ _ _ h => h) (Or.inl ⟨by rfl, ?_⟩) (by assumption) ?_
            rotate_left
            · intro w hSw
              (try dsimp only at hSw)
              go_simp
              all_goals (with_reducible rfl)
            try simp only [Act.put, List.setIfInBounds_toArray, List.set_cons_zero, List.set_cons_succ]
            refine wpAnyH_take (i := 21) (oi := { dst := some 165, op := Go.Op.fieldAddr 52 (Go.Operand.tmp 164) 3, type := 0, pos := "law.go:266", after := #[{ on := 20, ground := Go.Ground.data }], guard := none }) (v := ?_) rfl (by kernel_rfl) (by kernel_rfl) (by kernel_rfl) (fun _ _ _ h => h) (Or.inl ⟨by rfl, ?_⟩) (by assumption) ?_
            rotate_left
            · intro w hSw
              (try dsimp only at hSw)
              go_simp
              all_goals (with_reducible rfl)
            try simp only [Act.put, List.setIfInBounds_toArray, List.set_cons_zero, List.set_cons_succ]
            refine wpAnyH_take (i := 22) (oi := { dst := some 166, op := Go.Op.load 2 (Go.Operand.tmp 165), type := 2, pos := "law.go:266", after := #[{ on := 21, ground := Go.Ground.data }], guard := none }) (v := ?_) rfl (by kernel_rfl) (by kernel_rfl) (by kernel_rfl) (fun _ _ _ h => h) (Or.inl ⟨by rfl, ?_⟩) (by assumption) ?_
            rotate_left
            · intro w hSw
              (try dsimp only at hSw)
              go_simp
              all_goals (with_reducible rfl)
            try simp only [Act.put, List.setIfInBounds_toArray, List.set_cons_zero, List.set_cons_succ]
            refine meet_ (G := ?G) (fun hG => ?main) ?last
            case main =>
              refine wpAnyH_ready (rs := [1, 9, 17]) (by kernel_rfl) (by simp) ?_
              refine (AllReadyH.cons (o := { dst := some 145, op := Go.Op.load 3 (Go.Operand.tmp 144), type := 3, pos := "law.go:266", after := #[{ on := 0, ground := Go.Ground.data }], guard := none }) rfl (fun K hK => ?_) (AllReadyH.cons (o := { dst := some 153, op := Go.Op.load 3 (Go.Operand.tmp 152), type := 3, pos := "law.go:266", after := #[{ on := 8, ground := Go.Ground.data }], guard := none }) rfl (fun K hK => ?_) (AllReadyH.cons (o := { dst := some 161, op := Go.Op.load 2 (Go.Operand.tmp 160), type := 2, pos := "law.go:266", after := #[{ on := 16, ground := Go.Ground.data }], guard := none }) rfl (fun K hK => ?_) AllReadyH.nil)))
              · go_simp
                refine hK.out _ _ hHeld (fun _ => ?_)
                clear hK K
                try simp only [List.setIfInBounds_toArray, List.set_cons_zero, List.set_cons_succ]
                refine wpAnyH_take (i := 7) (oi := { dst := some 151, op := Go.Op.binOp Go.BinOp.add 3 (Go.Operand.tmp 145) (Go.Operand.tmp 150) 3, type := 3, pos := "law.go:266", after := #[{ on := 1, ground := Go.Ground.data }, { on := 6, ground := Go.Ground.data }], guard := none }) (v := ?_) rfl (by kernel_rfl) (by kernel_rfl) (by kernel_rfl) (fun _ _ _ h => h) (Or.inl ⟨by rfl, ?_⟩) hHeld ?_
                rotate_left
                · intro w hSw
                  (try dsimp only at hSw)
                  go_simp
                  all_goals (with_reducible rfl)
                try simp only [Act.put, List.setIfInBounds_toArray, List.set_cons_zero, List.set_cons_succ]
                refine wpAnyH_ready (rs := [9, 17]) (by kernel_rfl) (by simp) ?_
                refine (AllReadyH.cons (o := { dst := some 153, op := Go.Op.load 3 (Go.Operand.tmp 152), type := 3, pos := "law.go:266", after := #[{ on := 8, ground := Go.Ground.data }], guard := none }) rfl (fun K hK => ?_) (AllReadyH.cons (o := { dst := some 161, op := Go.Op.load 2 (Go.Operand.tmp 160), type := 2, pos := "law.go:266", after := #[{ on := 16, ground := Go.Ground.data }], guard := none }) rfl (fun K hK => ?_) AllReadyH.nil))
                · go_simp
                  refine hK.out _ _ hHeld (fun _ => ?_)
                  clear hK K
                  try simp only [List.setIfInBounds_toArray, List.set_cons_zero, List.set_cons_succ]
                  refine wpAnyH_take (i := 15) (oi := { dst := some 159, op := Go.Op.binOp Go.BinOp.add 3 (Go.Operand.tmp 153) (Go.Operand.tmp 158) 3, type := 3, pos := "law.go:266", after := #[{ on := 9, ground := Go.Ground.data }, { on := 14, ground := Go.Ground.data }], guard := none }) (v := ?_) rfl (by kernel_rfl) (by kernel_rfl) (by kernel_rfl) (fun _ _ _ h => h) (Or.inl ⟨by rfl, ?_⟩) hHeld ?_
                  rotate_left
                  · intro w hSw
                    (try dsimp only at hSw)
                    go_simp
                    all_goals (with_reducible rfl)
                  try simp only [Act.put, List.setIfInBounds_toArray, List.set_cons_zero, List.set_cons_succ]
                  refine wpAnyH_ready (rs := [17]) (by kernel_rfl) (by simp) ?_
                  refine (AllReadyH.cons (o := { dst := some 161, op := Go.Op.load 2 (Go.Operand.tmp 160), type := 2, pos := "law.go:266", after := #[{ on := 16, ground := Go.Ground.data }], guard := none }) rfl (fun K hK => ?_) AllReadyH.nil)
                  · go_simp
                    refine hK.out _ _ hHeld (fun _ => ?_)
                    clear hK K
                    try simp only [List.setIfInBounds_toArray, List.set_cons_zero, List.set_cons_succ]
                    refine wpAnyH_take (i := 23) (oi := { dst := some 167, op := Go.Op.binOp Go.BinOp.add 2 (Go.Operand.tmp 161) (Go.Operand.tmp 166) 2, type := 2, pos := "law.go:266", after := #[{ on := 17, ground := Go.Ground.data }, { on := 22, ground := Go.Ground.data }], guard := none }) (v := ?_) rfl (by kernel_rfl) (by kernel_rfl) (by kernel_rfl) (fun _ _ _ h => h) (Or.inl ⟨by rfl, ?_⟩) hHeld ?_
                    rotate_left
                    · intro w hSw
                      (try dsimp only at hSw)
                      go_simp
                      all_goals (with_reducible rfl)
                    try simp only [Act.put, List.setIfInBounds_toArray, List.set_cons_zero, List.set_cons_succ]
                    exact hG
                · go_simp
                  refine hK.out _ _ hHeld (fun _ => ?_)
                  clear hK K
                  try simp only [List.setIfInBounds_toArray, List.set_cons_zero, List.set_cons_succ]
                  refine wpAnyH_take (i := 23) (oi := { dst := some 167, op := Go.Op.binOp Go.BinOp.add 2 (Go.Operand.tmp 161) (Go.Operand.tmp 166) 2, type := 2, pos := "law.go:266", after := #[{ on := 17, ground := Go.Ground.data }, { on := 22, ground := Go.Ground.data }], guard := none }) (v := ?_) rfl (by kernel_rfl) (by kernel_rfl) (by kernel_rfl) (fun _ _ _ h => h) (Or.inl ⟨by rfl, ?_⟩) hHeld ?_
                  rotate_left
                  · intro w hSw
                    (try dsimp only at hSw)
                    go_simp
                    all_goals (with_reducible rfl)
                  try simp only [Act.put, List.setIfInBounds_toArray, List.set_cons_zero, List.set_cons_succ]
                  refine wpAnyH_ready (rs := [9]) (by kernel_rfl) (by simp) ?_
                  refine (AllReadyH.cons (o := { dst := some 153, op := Go.Op.load 3 (Go.Operand.tmp 152), type := 3, pos := "law.go:266", after := #[{ on := 8, ground := Go.Ground.data }], guard := none }) rfl (fun K hK => ?_) AllReadyH.nil)
                  · go_simp
                    refine hK.out _ _ hHeld (fun _ => ?_)
                    clear hK K
                    try simp only [List.setIfInBounds_toArray, List.set_cons_zero, List.set_cons_succ]
                    refine wpAnyH_take (i := 15) (oi := { dst := some 159, op := Go.Op.binOp Go.BinOp.add 3 (Go.Operand.tmp 153) (Go.Operand.tmp 158) 3, type := 3, pos := "law.go:266", after := #[{ on := 9, ground := Go.Ground.data }, { on := 14, ground := Go.Ground.data }], guard := none }) (v := ?_) rfl (by kernel_rfl) (by kernel_rfl) (by kernel_rfl) (fun _ _ _ h => h) (Or.inl ⟨by rfl, ?_⟩) hHeld ?_
                    rotate_left
                    · intro w hSw
                      (try dsimp only at hSw)
                      go_simp
                      all_goals (with_reducible rfl)
                    try simp only [Act.put, List.setIfInBounds_toArray, List.set_cons_zero, List.set_cons_succ]
                    exact hG
              · go_simp
                refine hK.out _ _ hHeld (fun _ => ?_)
                clear hK K
                try simp only [List.setIfInBounds_toArray, List.set_cons_zero, List.set_cons_succ]
                refine wpAnyH_take (i := 15) (oi := { dst := some 159, op := Go.Op.binOp Go.BinOp.add 3 (Go.Operand.tmp 153) (Go.Operand.tmp 158) 3, type := 3, pos := "law.go:266", after := #[{ on := 9, ground := Go.Ground.data }, { on := 14, ground := Go.Ground.data }], guard := none }) (v := ?_) rfl (by kernel_rfl) (by kernel_rfl) (by kernel_rfl) (fun _ _ _ h => h) (Or.inl ⟨by rfl, ?_⟩) hHeld ?_
                rotate_left
                · intro w hSw
                  (try dsimp only at hSw)
                  go_simp
                  all_goals (with_reducible rfl)
                try simp only [Act.put, List.setIfInBounds_toArray, List.set_cons_zero, List.set_cons_succ]
                refine wpAnyH_ready (rs := [1, 17]) (by kernel_rfl) (by simp) ?_
                refine (AllReadyH.cons (o := { dst := some 145, op := Go.Op.load 3 (Go.Operand.tmp 144), type := 3, pos := "law.go:266", after := #[{ on := 0, ground := Go.Ground.data }], guard := none }) rfl (fun K hK => ?_) (AllReadyH.cons (o := { dst := some 161, op := Go.Op.load 2 (Go.Operand.tmp 160), type := 2, pos := "law.go:266", after := #[{ on := 16, ground := Go.Ground.data }], guard := none }) rfl (fun K hK => ?_) AllReadyH.nil))
                · go_simp
                  refine hK.out _ _ hHeld (fun _ => ?_)
                  clear hK K
                  try simp only [List.setIfInBounds_toArray, List.set_cons_zero, List.set_cons_succ]
                  refine wpAnyH_take (i := 7) (oi := { dst := some 151, op := Go.Op.binOp Go.BinOp.add 3 (Go.Operand.tmp 145) (Go.Operand.tmp 150) 3, type := 3, pos := "law.go:266", after := #[{ on := 1, ground := Go.Ground.data }, { on := 6, ground := Go.Ground.data }], guard := none }) (v := ?_) rfl (by kernel_rfl) (by kernel_rfl) (by kernel_rfl) (fun _ _ _ h => h) (Or.inl ⟨by rfl, ?_⟩) hHeld ?_
                  rotate_left
                  · intro w hSw
                    (try dsimp only at hSw)
                    go_simp
                    all_goals (with_reducible rfl)
                  try simp only [Act.put, List.setIfInBounds_toArray, List.set_cons_zero, List.set_cons_succ]
                  refine wpAnyH_ready (rs := [17]) (by kernel_rfl) (by simp) ?_
                  refine (AllReadyH.cons (o := { dst := some 161, op := Go.Op.load 2 (Go.Operand.tmp 160), type := 2, pos := "law.go:266", after := #[{ on := 16, ground := Go.Ground.data }], guard := none }) rfl (fun K hK => ?_) AllReadyH.nil)
                  · go_simp
                    refine hK.out _ _ hHeld (fun _ => ?_)
                    clear hK K
                    try simp only [List.setIfInBounds_toArray, List.set_cons_zero, List.set_cons_succ]
                    refine wpAnyH_take (i := 23) (oi := { dst := some 167, op := Go.Op.binOp Go.BinOp.add 2 (Go.Operand.tmp 161) (Go.Operand.tmp 166) 2, type := 2, pos := "law.go:266", after := #[{ on := 17, ground := Go.Ground.data }, { on := 22, ground := Go.Ground.data }], guard := none }) (v := ?_) rfl (by kernel_rfl) (by kernel_rfl) (by kernel_rfl) (fun _ _ _ h => h) (Or.inl ⟨by rfl, ?_⟩) hHeld ?_
                    rotate_left
                    · intro w hSw
                      (try dsimp only at hSw)
                      go_simp
                      all_goals (with_reducible rfl)
                    try simp only [Act.put, List.setIfInBounds_toArray, List.set_cons_zero, List.set_cons_succ]
                    exact hG
                · go_simp
                  refine hK.out _ _ hHeld (fun _ => ?_)
                  clear hK K
                  try simp only [List.setIfInBounds_toArray, List.set_cons_zero, List.set_cons_succ]
                  refine wpAnyH_take (i := 23) (oi := { dst := some 167, op := Go.Op.binOp Go.BinOp.add 2 (Go.Operand.tmp 161) (Go.Operand.tmp 166) 2, type := 2, pos := "law.go:266", after := #[{ on := 17, ground := Go.Ground.data }, { on := 22, ground := Go.Ground.data }], guard := none }) (v := ?_) rfl (by kernel_rfl) (by kernel_rfl) (by kernel_rfl) (fun _ _ _ h => h) (Or.inl ⟨by rfl, ?_⟩) hHeld ?_
                  rotate_left
                  · intro w hSw
                    (try dsimp only at hSw)
                    go_simp
                    all_goals (with_reducible rfl)
                  try simp only [Act.put, List.setIfInBounds_toArray, List.set_cons_zero, List.set_cons_succ]
                  refine wpAnyH_ready (rs := [1]) (by kernel_rfl) (by simp) ?_
                  refine (AllReadyH.cons (o := { dst := some 145, op := Go.Op.load 3 (Go.Operand.tmp 144), type := 3, pos := "law.go:266", after := #[{ on := 0, ground := Go.Ground.data }], guard := none }) rfl (fun K hK => ?_) AllReadyH.nil)
                  · go_simp
                    refine hK.out _ _ hHeld (fun _ => ?_)
                    clear hK K
                    try simp only [List.setIfInBounds_toArray, List.set_cons_zero, List.set_cons_succ]
                    refine wpAnyH_take (i := 7) (oi := { dst := some 151, op := Go.Op.binOp Go.BinOp.add 3 (Go.Operand.tmp 145) (Go.Operand.tmp 150) 3, type := 3, pos := "law.go:266", after := #[{ on := 1, ground := Go.Ground.data }, { on := 6, ground := Go.Ground.data }], guard := none }) (v := ?_) rfl (by kernel_rfl) (by kernel_rfl) (by kernel_rfl) (fun _ _ _ h => h) (Or.inl ⟨by rfl, ?_⟩) hHeld ?_
                    rotate_left
                    · intro w hSw
                      (try dsimp only at hSw)
                      go_simp
                      all_goals (with_reducible rfl)
                    try simp only [Act.put, List.setIfInBounds_toArray, List.set_cons_zero, List.set_cons_succ]
                    exact hG
              · go_simp
                refine hK.out _ _ hHeld (fun _ => ?_)
                clear hK K
                try simp only [List.setIfInBounds_toArray, List.set_cons_zero, List.set_cons_succ]
                refine wpAnyH_take (i := 23) (oi := { dst := some 167, op := Go.Op.binOp Go.BinOp.add 2 (Go.Operand.tmp 161) (Go.Operand.tmp 166) 2, type := 2, pos := "law.go:266", after := #[{ on := 17, ground := Go.Ground.data }, { on := 22, ground := Go.Ground.data }], guard := none }) (v := ?_) rfl (by kernel_rfl) (by kernel_rfl) (by kernel_rfl) (fun _ _ _ h => h) (Or.inl ⟨by rfl, ?_⟩) hHeld ?_
                rotate_left
                · intro w hSw
                  (try dsimp only at hSw)
                  go_simp
                  all_goals (with_reducible rfl)
                try simp only [Act.put, List.setIfInBounds_toArray, List.set_cons_zero, List.set_cons_succ]
                refine wpAnyH_ready (rs := [1, 9]) (by kernel_rfl) (by simp) ?_
                refine (AllReadyH.cons (o := { dst := some 145, op := Go.Op.load 3 (Go.Operand.tmp 144), type := 3, pos := "law.go:266", after := #[{ on := 0, ground := Go.Ground.data }], guard := none }) rfl (fun K hK => ?_) (AllReadyH.cons (o := { dst := some 153, op := Go.Op.load 3 (Go.Operand.tmp 152), type := 3, pos := "law.go:266", after := #[{ on := 8, ground := Go.Ground.data }], guard := none }) rfl (fun K hK => ?_) AllReadyH.nil))
                · go_simp
                  refine hK.out _ _ hHeld (fun _ => ?_)
                  clear hK K
                  try simp only [List.setIfInBounds_toArray, List.set_cons_zero, List.set_cons_succ]
                  refine wpAnyH_take (i := 7) (oi := { dst := some 151, op := Go.Op.binOp Go.BinOp.add 3 (Go.Operand.tmp 145) (Go.Operand.tmp 150) 3, type := 3, pos := "law.go:266", after := #[{ on := 1, ground := Go.Ground.data }, { on := 6, ground := Go.Ground.data }], guard := none }) (v := ?_) rfl (by kernel_rfl) (by kernel_rfl) (by kernel_rfl) (fun _ _ _ h => h) (Or.inl ⟨by rfl, ?_⟩) hHeld ?_
                  rotate_left
                  · intro w hSw
                    (try dsimp only at hSw)
                    go_simp
                    all_goals (with_reducible rfl)
                  try simp only [Act.put, List.setIfInBounds_toArray, List.set_cons_zero, List.set_cons_succ]
                  refine wpAnyH_ready (rs := [9]) (by kernel_rfl) (by simp) ?_
                  refine (AllReadyH.cons (o := { dst := some 153, op := Go.Op.load 3 (Go.Operand.tmp 152), type := 3, pos := "law.go:266", after := #[{ on := 8, ground := Go.Ground.data }], guard := none }) rfl (fun K hK => ?_) AllReadyH.nil)
                  · go_simp
                    refine hK.out _ _ hHeld (fun _ => ?_)
                    clear hK K
                    try simp only [List.setIfInBounds_toArray, List.set_cons_zero, List.set_cons_succ]
                    refine wpAnyH_take (i := 15) (oi := { dst := some 159, op := Go.Op.binOp Go.BinOp.add 3 (Go.Operand.tmp 153) (Go.Operand.tmp 158) 3, type := 3, pos := "law.go:266", after := #[{ on := 9, ground := Go.Ground.data }, { on := 14, ground := Go.Ground.data }], guard := none }) (v := ?_) rfl (by kernel_rfl) (by kernel_rfl) (by kernel_rfl) (fun _ _ _ h => h) (Or.inl ⟨by rfl, ?_⟩) hHeld ?_
                    rotate_left
                    · intro w hSw
                      (try dsimp only at hSw)
                      go_simp
                      all_goals (with_reducible rfl)
                    try simp only [Act.put, List.setIfInBounds_toArray, List.set_cons_zero, List.set_cons_succ]
                    exact hG
                · go_simp
                  refine hK.out _ _ hHeld (fun _ => ?_)
                  clear hK K
                  try simp only [List.setIfInBounds_toArray, List.set_cons_zero, List.set_cons_succ]
                  refine wpAnyH_take (i := 15) (oi := { dst := some 159, op := Go.Op.binOp Go.BinOp.add 3 (Go.Operand.tmp 153) (Go.Operand.tmp 158) 3, type := 3, pos := "law.go:266", after := #[{ on := 9, ground := Go.Ground.data }, { on := 14, ground := Go.Ground.data }], guard := none }) (v := ?_) rfl (by kernel_rfl) (by kernel_rfl) (by kernel_rfl) (fun _ _ _ h => h) (Or.inl ⟨by rfl, ?_⟩) hHeld ?_
                  rotate_left
                  · intro w hSw
                    (try dsimp only at hSw)
                    go_simp
                    all_goals (with_reducible rfl)
                  try simp only [Act.put, List.setIfInBounds_toArray, List.set_cons_zero, List.set_cons_succ]
                  refine wpAnyH_ready (rs := [1]) (by kernel_rfl) (by simp) ?_
                  refine (AllReadyH.cons (o := { dst := some 145, op := Go.Op.load 3 (Go.Operand.tmp 144), type := 3, pos := "law.go:266", after := #[{ on := 0, ground := Go.Ground.data }], guard := none }) rfl (fun K hK => ?_) AllReadyH.nil)
                  · go_simp
                    refine hK.out _ _ hHeld (fun _ => ?_)
                    clear hK K
                    try simp only [List.setIfInBounds_toArray, List.set_cons_zero, List.set_cons_succ]
                    refine wpAnyH_take (i := 7) (oi := { dst := some 151, op := Go.Op.binOp Go.BinOp.add 3 (Go.Operand.tmp 145) (Go.Operand.tmp 150) 3, type := 3, pos := "law.go:266", after := #[{ on := 1, ground := Go.Ground.data }, { on := 6, ground := Go.Ground.data }], guard := none }) (v := ?_) rfl (by kernel_rfl) (by kernel_rfl) (by kernel_rfl) (fun _ _ _ h => h) (Or.inl ⟨by rfl, ?_⟩) hHeld ?_
                    rotate_left
                    · intro w hSw
                      (try dsimp only at hSw)
                      go_simp
                      all_goals (with_reducible rfl)
                    try simp only [Act.put, List.setIfInBounds_toArray, List.set_cons_zero, List.set_cons_succ]
                    exact hG
            case last =>
              refine wpAnyH_take (i := 24) (oi := { dst := some 168, op := Go.Op.fieldAddr 52 (Go.Operand.tmp 15) 1, type := 0, pos := "law.go:266", after := #[{ on := 0, ground := Go.Ground.phase }, { on := 1, ground := Go.Ground.phase }, { on := 2, ground := Go.Ground.phase }, { on := 3, ground := Go.Ground.phase }, { on := 4, ground := Go.Ground.phase }, { on := 5, ground := Go.Ground.phase }, { on := 6, ground := Go.Ground.phase }, { on := 7, ground := Go.Ground.phase }, { on := 8, ground := Go.Ground.phase }, { on := 9, ground := Go.Ground.phase }, { on := 10, ground := Go.Ground.textOnly Go.Departure.lateStores }, { on := 11, ground := Go.Ground.textOnly Go.Departure.lateStores }, { on := 12, ground := Go.Ground.textOnly Go.Departure.lateStores }, { on := 13, ground := Go.Ground.textOnly Go.Departure.lateStores }, { on := 14, ground := Go.Ground.textOnly Go.Departure.lateStores }, { on := 15, ground := Go.Ground.textOnly Go.Departure.lateStoresUnsure }, { on := 16, ground := Go.Ground.phase }, { on := 17, ground := Go.Ground.phase }, { on := 18, ground := Go.Ground.textOnly Go.Departure.lateStores }, { on := 19, ground := Go.Ground.textOnly Go.Departure.lateStores }, { on := 20, ground := Go.Ground.textOnly Go.Departure.lateStores }, { on := 21, ground := Go.Ground.textOnly Go.Departure.lateStores }, { on := 22, ground := Go.Ground.textOnly Go.Departure.lateStores }, { on := 23, ground := Go.Ground.textOnly Go.Departure.lateStoresUnsure }], guard := none }) (v := ?_) rfl (by kernel_rfl) (by kernel_rfl) (by kernel_rfl) (fun _ _ _ h => h) (Or.inl ⟨by rfl, ?_⟩) (by assumption) ?_
              rotate_left
              · intro w hSw
                (try dsimp only at hSw)
                go_simp
                all_goals (with_reducible rfl)
              try simp only [Act.put, List.setIfInBounds_toArray, List.set_cons_zero, List.set_cons_succ]
              refine wpAnyH_ready (rs := [25]) (by kernel_rfl) (by simp) ?_
              refine AllReadyH.cons (o := { dst := none, op := Go.Op.store 3 (Go.Operand.tmp 168) (Go.Operand.tmp 151), type := 0, pos := "law.go:266", after := #[{ on := 24, ground := Go.Ground.data }, { on := 7, ground := Go.Ground.data }, { on := 0, ground := Go.Ground.phase }, { on := 1, ground := Go.Ground.phase }, { on := 2, ground := Go.Ground.phase }, { on := 3, ground := Go.Ground.phase }, { on := 4, ground := Go.Ground.phase }, { on := 5, ground := Go.Ground.phase }, { on := 6, ground := Go.Ground.phase }, { on := 7, ground := Go.Ground.phase }, { on := 8, ground := Go.Ground.phase }, { on := 9, ground := Go.Ground.phase }, { on := 10, ground := Go.Ground.textOnly Go.Departure.lateStores }, { on := 11, ground := Go.Ground.textOnly Go.Departure.lateStores }, { on := 12, ground := Go.Ground.textOnly Go.Departure.lateStores }, { on := 13, ground := Go.Ground.textOnly Go.Departure.lateStores }, { on := 14, ground := Go.Ground.textOnly Go.Departure.lateStores }, { on := 15, ground := Go.Ground.textOnly Go.Departure.lateStoresUnsure }, { on := 16, ground := Go.Ground.phase }, { on := 17, ground := Go.Ground.phase }, { on := 18, ground := Go.Ground.textOnly Go.Departure.lateStores }, { on := 19, ground := Go.Ground.textOnly Go.Departure.lateStores }, { on := 20, ground := Go.Ground.textOnly Go.Departure.lateStores }, { on := 21, ground := Go.Ground.textOnly Go.Departure.lateStores }, { on := 22, ground := Go.Ground.textOnly Go.Departure.lateStores }, { on := 23, ground := Go.Ground.textOnly Go.Departure.lateStoresUnsure }], guard := none }) rfl (fun K hK => ?_) AllReadyH.nil
              go_simp
              refine hK.out _ _ (by repeat (first | with_reducible assumption | with_reducible exact Hor.out | with_reducible refine Old.drew ?_ | (with_reducible refine Old.setCell ?_ (by first | exact hgb2 | (simp; omega)) _))) (fun _ => ?_)
              clear hK K
              try simp only [List.setIfInBounds_toArray, List.set_cons_zero, List.set_cons_succ]
              refine wpAnyH_take (i := 26) (oi := { dst := some 169, op := Go.Op.fieldAddr 52 (Go.Operand.tmp 15) 2, type := 0, pos := "law.go:266", after := #[{ on := 0, ground := Go.Ground.phase }, { on := 1, ground := Go.Ground.phase }, { on := 2, ground := Go.Ground.phase }, { on := 3, ground := Go.Ground.phase }, { on := 4, ground := Go.Ground.phase }, { on := 5, ground := Go.Ground.phase }, { on := 6, ground := Go.Ground.phase }, { on := 7, ground := Go.Ground.phase }, { on := 8, ground := Go.Ground.phase }, { on := 9, ground := Go.Ground.phase }, { on := 10, ground := Go.Ground.phase }, { on := 11, ground := Go.Ground.phase }, { on := 12, ground := Go.Ground.phase }, { on := 13, ground := Go.Ground.phase }, { on := 14, ground := Go.Ground.phase }, { on := 15, ground := Go.Ground.phase }, { on := 16, ground := Go.Ground.phase }, { on := 17, ground := Go.Ground.phase }, { on := 18, ground := Go.Ground.textOnly Go.Departure.lateStores }, { on := 19, ground := Go.Ground.textOnly Go.Departure.lateStores }, { on := 20, ground := Go.Ground.textOnly Go.Departure.lateStores }, { on := 21, ground := Go.Ground.textOnly Go.Departure.lateStores }, { on := 22, ground := Go.Ground.textOnly Go.Departure.lateStores }, { on := 23, ground := Go.Ground.textOnly Go.Departure.lateStoresUnsure }, { on := 24, ground := Go.Ground.phase }, { on := 25, ground := Go.Ground.phase }], guard := none }) (v := ?_) rfl (by kernel_rfl) (by kernel_rfl) (by kernel_rfl) (fun _ _ _ h => h) (Or.inl ⟨by rfl, ?_⟩) (by assumption) ?_
              rotate_left
              · intro w hSw
                (try dsimp only at hSw)
                go_simp
                all_goals (with_reducible rfl)
              try simp only [Act.put, List.setIfInBounds_toArray, List.set_cons_zero, List.set_cons_succ]
              refine wpAnyH_ready (rs := [27]) (by kernel_rfl) (by simp) ?_
              refine AllReadyH.cons (o := { dst := none, op := Go.Op.store 3 (Go.Operand.tmp 169) (Go.Operand.tmp 159), type := 0, pos := "law.go:266", after := #[{ on := 26, ground := Go.Ground.data }, { on := 15, ground := Go.Ground.data }, { on := 25, ground := Go.Ground.chain }, { on := 0, ground := Go.Ground.phase }, { on := 1, ground := Go.Ground.phase }, { on := 2, ground := Go.Ground.phase }, { on := 3, ground := Go.Ground.phase }, { on := 4, ground := Go.Ground.phase }, { on := 5, ground := Go.Ground.phase }, { on := 6, ground := Go.Ground.phase }, { on := 7, ground := Go.Ground.phase }, { on := 8, ground := Go.Ground.phase }, { on := 9, ground := Go.Ground.phase }, { on := 10, ground := Go.Ground.phase }, { on := 11, ground := Go.Ground.phase }, { on := 12, ground := Go.Ground.phase }, { on := 13, ground := Go.Ground.phase }, { on := 14, ground := Go.Ground.phase }, { on := 15, ground := Go.Ground.phase }, { on := 16, ground := Go.Ground.phase }, { on := 17, ground := Go.Ground.phase }, { on := 18, ground := Go.Ground.textOnly Go.Departure.lateStores }, { on := 19, ground := Go.Ground.textOnly Go.Departure.lateStores }, { on := 20, ground := Go.Ground.textOnly Go.Departure.lateStores }, { on := 21, ground := Go.Ground.textOnly Go.Departure.lateStores }, { on := 22, ground := Go.Ground.textOnly Go.Departure.lateStores }, { on := 23, ground := Go.Ground.textOnly Go.Departure.lateStoresUnsure }, { on := 24, ground := Go.Ground.phase }, { on := 25, ground := Go.Ground.phase }], guard := none }) rfl (fun K hK => ?_) AllReadyH.nil
              go_simp
              refine hK.out _ _ (by repeat (first | with_reducible assumption | with_reducible exact Hor.out | with_reducible refine Old.drew ?_ | (with_reducible refine Old.setCell ?_ (by first | exact hgb2 | (simp; omega)) _))) (fun _ => ?_)
              clear hK K
              try simp only [List.setIfInBounds_toArray, List.set_cons_zero, List.set_cons_succ]
              refine wpAnyH_take (i := 28) (oi := { dst := some 170, op := Go.Op.fieldAddr 52 (Go.Operand.tmp 15) 3, type := 0, pos := "law.go:266", after := #[{ on := 0, ground := Go.Ground.phase }, { on := 1, ground := Go.Ground.phase }, { on := 2, ground := Go.Ground.phase }, { on := 3, ground := Go.Ground.phase }, { on := 4, ground := Go.Ground.phase }, { on := 5, ground := Go.Ground.phase }, { on := 6, ground := Go.Ground.phase }, { on := 7, ground := Go.Ground.phase }, { on := 8, ground := Go.Ground.phase }, { on := 9, ground := Go.Ground.phase }, { on := 10, ground := Go.Ground.phase }, { on := 11, ground := Go.Ground.phase }, { on := 12, ground := Go.Ground.phase }, { on := 13, ground := Go.Ground.phase }, { on := 14, ground := Go.Ground.phase }, { on := 15, ground := Go.Ground.phase }, { on := 16, ground := Go.Ground.phase }, { on := 17, ground := Go.Ground.phase }, { on := 18, ground := Go.Ground.phase }, { on := 19, ground := Go.Ground.phase }, { on := 20, ground := Go.Ground.phase }, { on := 21, ground := Go.Ground.phase }, { on := 22, ground := Go.Ground.phase }, { on := 23, ground := Go.Ground.phase }, { on := 24, ground := Go.Ground.phase }, { on := 25, ground := Go.Ground.phase }, { on := 26, ground := Go.Ground.phase }, { on := 27, ground := Go.Ground.phase }], guard := none }) (v := ?_) rfl (by kernel_rfl) (by kernel_rfl) (by kernel_rfl) (fun _ _ _ h => h) (Or.inl ⟨by rfl, ?_⟩) (by assumption) ?_
              rotate_left
              · intro w hSw
                (try dsimp only at hSw)
                go_simp
                all_goals (with_reducible rfl)
              try simp only [Act.put, List.setIfInBounds_toArray, List.set_cons_zero, List.set_cons_succ]
              refine wpAnyH_ready (rs := [29]) (by kernel_rfl) (by simp) ?_
              refine AllReadyH.cons (o := { dst := none, op := Go.Op.store 2 (Go.Operand.tmp 170) (Go.Operand.tmp 167), type := 0, pos := "law.go:266", after := #[{ on := 28, ground := Go.Ground.data }, { on := 23, ground := Go.Ground.data }, { on := 27, ground := Go.Ground.chain }, { on := 0, ground := Go.Ground.phase }, { on := 1, ground := Go.Ground.phase }, { on := 2, ground := Go.Ground.phase }, { on := 3, ground := Go.Ground.phase }, { on := 4, ground := Go.Ground.phase }, { on := 5, ground := Go.Ground.phase }, { on := 6, ground := Go.Ground.phase }, { on := 7, ground := Go.Ground.phase }, { on := 8, ground := Go.Ground.phase }, { on := 9, ground := Go.Ground.phase }, { on := 10, ground := Go.Ground.phase }, { on := 11, ground := Go.Ground.phase }, { on := 12, ground := Go.Ground.phase }, { on := 13, ground := Go.Ground.phase }, { on := 14, ground := Go.Ground.phase }, { on := 15, ground := Go.Ground.phase }, { on := 16, ground := Go.Ground.phase }, { on := 17, ground := Go.Ground.phase }, { on := 18, ground := Go.Ground.phase }, { on := 19, ground := Go.Ground.phase }, { on := 20, ground := Go.Ground.phase }, { on := 21, ground := Go.Ground.phase }, { on := 22, ground := Go.Ground.phase }, { on := 23, ground := Go.Ground.phase }, { on := 24, ground := Go.Ground.phase }, { on := 25, ground := Go.Ground.phase }, { on := 26, ground := Go.Ground.phase }, { on := 27, ground := Go.Ground.phase }], guard := none }) rfl (fun K hK => ?_) AllReadyH.nil
              go_simp
              refine hK.out _ _ (by repeat (first | with_reducible assumption | with_reducible exact Hor.out | with_reducible refine Old.drew ?_ | (with_reducible refine Old.setCell ?_ (by first | exact hgb2 | (simp; omega)) _))) (fun _ => ?_)
              clear hK K
              try simp only [List.setIfInBounds_toArray, List.set_cons_zero, List.set_cons_succ]
              refine wpAnyH_done (by kernel_rfl) ?_ _
              have h1 := blk_set Hbox.out 1 (.int .i64 ((P : Int) + (dp : Int)))
              have h2 := blk_set h1 2 (.int .i64 ((B : Int) + (db : Int)))
              have h3 := blk_set h2 3 (.int .i64 (Z + dz))
              have h4 := Lib.hid h3
              have hxe := Lib.hid (show Ext w11 (((wr.setCell ⟨gb, 1, none⟩ (.int .i64 ((P : Int) + (dp : Int)))).setCell ⟨gb, 2, none⟩ (.int .i64 ((B : Int) + (db : Int)))).setCell ⟨gb, 3, none⟩ (.int .i64 (Z + dz))) from Keeps.setCell (Keeps.setCell (Keeps.setCell Hxr.out (fun h => absurd h (by simp; omega)) _) (fun h => absurd h (by simp; omega)) _) (fun h => absurd h (by simp; omega)) _)
              clear h1 h2 h3 e1 e2 e3 z0 z1 z2 z3 hHeld
              go_wp2_with fail
              go_roundw
              case rel => exact ⟨q + 1, by omega, by go_num, by rw [Hs1'.out, Hs2'.out, Hs3'.out, Int.natCast_add, Int.natCast_add]; exact h4.out, by first | exact hxe.out | exact hxe.out.drew⟩
              case measure => simp [intOf]; omega
          · obtain rfl : q = t.arms.length := by omega
            have Hb := Hbox.out
            rw [pplLt_all t hone, bghtLt_all t hone, wrthLt_all t hone] at Hb
            clear e0 e1 e2 e3 fb
            have e0 := blk_cell Hb 0 rfl
            have e1 := blk_cell Hb 1 rfl
            have e2 := blk_cell Hb 2 rfl
            have e3 := blk_cell Hb 3 rfl
            obtain ⟨b2, o2, r, hG2, hb2, _, hr, z0, z1, z2, z3⟩ := (Hs2.out.ext Hxr.out).rw (k := 0) (by simp)
            obtain rfl := Option.some.inj hr
            subst hG2
            simp only [Nat.zero_mul, Nat.add_zero] at z0 z1 z2 z3
            generalize (ds.length : Int) = P at e1 z1
            generalize (bghtA cs : Int) = B at e2 z2
            generalize wrthA cs = Z at e3 z3
            clear Hb hr Hbox
            generalize allB = ab at e0 z0
            go_wp2_with fail
            go_quiet (fail)
            go_wp2_with fail
            go_ret
            exact ⟨rfl, ((HxX.out.trans Hx.out).trans (Hx11.out.trans Hxr.out)).drewN _⟩
end Go.Proofs.YtdkgphambjnbiaaDoor
