/-
  What is proved here: the law TrialRamps returns true, whatever the trial, how many buckets more, and the person, and leaves old memory as it was. Conditions: no text is longer than a text can be.
-/
import Derived.Test.YtdkgphambjnbiaaDoorLawSplits
namespace Go.Proofs.YtdkgphambjnbiaaDoor
open Go Go.RowKit Go.Proofs
attribute [local go_sem ↓] Go.wp_at_zero Go.wp_at_succ

set_option maxRecDepth 100000 in
set_option maxHeartbeats 8000000 in
theorem law_Ramps (t : Tr) (more less : Int) (person : ByteArray) (A : Option Addr) (c : Nat) (ok : Nat → Prop) (w : World) (hs : Sl strR ok w A t.arms.length t.arms) (hc : t.arms.length ≤ c) (hwf : TrWf t) (hp : person.size ≤ 140737488355328) :
    Calls Tryd.prog 5 #[.agg #[.string t.name, .string t.layer, .int .i64 t.lo, .int .i64 t.hi, .slice A t.arms.length c], .int .i64 more, .int .i64 less, .string person] w fun r w' => r = .returned (.bool true) ∧ Ext w w' := by
  have Hs := Lib.hid (show Sl strR (fun _ => True) w A t.arms.length t.arms from hs.mono (fun _ _ _ => trivial))
  have Hwf := Lib.hid hwf
  clear hs hwf
  cases hf : fewTs [t]
  · go_enter Tryd.func5, Tryd.ntmps5
    go_wp2_with (first | (go_at_call 11; refine (law_lives _).mono ?_; rintro _ w1 ⟨rfl, hx1⟩; have g1 := hx1.blk (blk_new w _); have r0 := blk_cell g1 0 rfl; have r1 := blk_cell g1 1 rfl; have r2 := blk_cell g1 2 rfl; have r3 := blk_cell g1 3 rfl; have r4 := blk_cell g1 4 rfl; have Hg1 := Lib.hid g1; have Hx1 := Lib.hid (Keeps.trans ((Keeps.refl (fun _ => True) w).alloc _) hx1); clear hx1 g1) | (go_at_call 12; refine (law_few (some ⟨w1.heap.size, 0, none⟩) 1 1 [t] (fun _ => True) _ (one_tr t (blk_new w1 _) trivial hc ((Hs.out.ext Hx1.out).alloc _)) (by decide) (fun x hx => by simp at hx; subst hx; exact Hwf.out)).mono ?_; rw [hf]; rintro _ w2 ⟨rfl, hx2⟩; have hx12 := Keeps.trans ((Keeps.refl (fun _ => True) w1).alloc _) hx2; have g2 := Ext.blk hx12 Hg1.out; have s0 := blk_cell g2 0 rfl; have s1 := blk_cell g2 1 rfl; have s2 := blk_cell g2 2 rfl; have s3 := blk_cell g2 3 rfl; have s4 := blk_cell g2 4 rfl; have Hg2 := Lib.hid g2; have Hx2 := Lib.hid (Hx1.out.trans hx12); clear hx2 hx12 g2))
    go_ret
    exact ⟨rfl, Hx2.out⟩
  by_cases h1 : 300 < person.size
  · go_enter Tryd.func5, Tryd.ntmps5
    go_wp2_with (first | (go_at_call 11; refine (law_lives _).mono ?_; rintro _ w1 ⟨rfl, hx1⟩; have g1 := hx1.blk (blk_new w _); have r0 := blk_cell g1 0 rfl; have r1 := blk_cell g1 1 rfl; have r2 := blk_cell g1 2 rfl; have r3 := blk_cell g1 3 rfl; have r4 := blk_cell g1 4 rfl; have Hg1 := Lib.hid g1; have Hx1 := Lib.hid (Keeps.trans ((Keeps.refl (fun _ => True) w).alloc _) hx1); clear hx1 g1) | (go_at_call 12; refine (law_few (some ⟨w1.heap.size, 0, none⟩) 1 1 [t] (fun _ => True) _ (one_tr t (blk_new w1 _) trivial hc ((Hs.out.ext Hx1.out).alloc _)) (by decide) (fun x hx => by simp at hx; subst hx; exact Hwf.out)).mono ?_; rw [hf]; rintro _ w2 ⟨rfl, hx2⟩; have hx12 := Keeps.trans ((Keeps.refl (fun _ => True) w1).alloc _) hx2; have g2 := Ext.blk hx12 Hg1.out; have s0 := blk_cell g2 0 rfl; have s1 := blk_cell g2 1 rfl; have s2 := blk_cell g2 2 rfl; have s3 := blk_cell g2 3 rfl; have s4 := blk_cell g2 4 rfl; have Hg2 := Lib.hid g2; have Hx2 := Lib.hid (Hx1.out.trans hx12); clear hx2 hx12 g2))
    go_ret
    exact ⟨rfl, Hx2.out⟩
  by_cases h2 : more < 0
  · go_enter Tryd.func5, Tryd.ntmps5
    go_wp2_with (first | (go_at_call 11; refine (law_lives _).mono ?_; rintro _ w1 ⟨rfl, hx1⟩; have g1 := hx1.blk (blk_new w _); have r0 := blk_cell g1 0 rfl; have r1 := blk_cell g1 1 rfl; have r2 := blk_cell g1 2 rfl; have r3 := blk_cell g1 3 rfl; have r4 := blk_cell g1 4 rfl; have Hg1 := Lib.hid g1; have Hx1 := Lib.hid (Keeps.trans ((Keeps.refl (fun _ => True) w).alloc _) hx1); clear hx1 g1) | (go_at_call 12; refine (law_few (some ⟨w1.heap.size, 0, none⟩) 1 1 [t] (fun _ => True) _ (one_tr t (blk_new w1 _) trivial hc ((Hs.out.ext Hx1.out).alloc _)) (by decide) (fun x hx => by simp at hx; subst hx; exact Hwf.out)).mono ?_; rw [hf]; rintro _ w2 ⟨rfl, hx2⟩; have hx12 := Keeps.trans ((Keeps.refl (fun _ => True) w1).alloc _) hx2; have g2 := Ext.blk hx12 Hg1.out; have s0 := blk_cell g2 0 rfl; have s1 := blk_cell g2 1 rfl; have s2 := blk_cell g2 2 rfl; have s3 := blk_cell g2 3 rfl; have s4 := blk_cell g2 4 rfl; have Hg2 := Lib.hid g2; have Hx2 := Lib.hid (Hx1.out.trans hx12); clear hx2 hx12 g2))
    go_ret
    exact ⟨rfl, Hx2.out⟩
  by_cases h3 : 1000 < more
  · go_enter Tryd.func5, Tryd.ntmps5
    go_wp2_with (first | (go_at_call 11; refine (law_lives _).mono ?_; rintro _ w1 ⟨rfl, hx1⟩; have g1 := hx1.blk (blk_new w _); have r0 := blk_cell g1 0 rfl; have r1 := blk_cell g1 1 rfl; have r2 := blk_cell g1 2 rfl; have r3 := blk_cell g1 3 rfl; have r4 := blk_cell g1 4 rfl; have Hg1 := Lib.hid g1; have Hx1 := Lib.hid (Keeps.trans ((Keeps.refl (fun _ => True) w).alloc _) hx1); clear hx1 g1) | (go_at_call 12; refine (law_few (some ⟨w1.heap.size, 0, none⟩) 1 1 [t] (fun _ => True) _ (one_tr t (blk_new w1 _) trivial hc ((Hs.out.ext Hx1.out).alloc _)) (by decide) (fun x hx => by simp at hx; subst hx; exact Hwf.out)).mono ?_; rw [hf]; rintro _ w2 ⟨rfl, hx2⟩; have hx12 := Keeps.trans ((Keeps.refl (fun _ => True) w1).alloc _) hx2; have g2 := Ext.blk hx12 Hg1.out; have s0 := blk_cell g2 0 rfl; have s1 := blk_cell g2 1 rfl; have s2 := blk_cell g2 2 rfl; have s3 := blk_cell g2 3 rfl; have s4 := blk_cell g2 4 rfl; have Hg2 := Lib.hid g2; have Hx2 := Lib.hid (Hx1.out.trans hx12); clear hx2 hx12 g2))
    go_ret
    exact ⟨rfl, Hx2.out⟩
  by_cases h4 : less < 0
  · go_enter Tryd.func5, Tryd.ntmps5
    go_wp2_with (first | (go_at_call 11; refine (law_lives _).mono ?_; rintro _ w1 ⟨rfl, hx1⟩; have g1 := hx1.blk (blk_new w _); have r0 := blk_cell g1 0 rfl; have r1 := blk_cell g1 1 rfl; have r2 := blk_cell g1 2 rfl; have r3 := blk_cell g1 3 rfl; have r4 := blk_cell g1 4 rfl; have Hg1 := Lib.hid g1; have Hx1 := Lib.hid (Keeps.trans ((Keeps.refl (fun _ => True) w).alloc _) hx1); clear hx1 g1) | (go_at_call 12; refine (law_few (some ⟨w1.heap.size, 0, none⟩) 1 1 [t] (fun _ => True) _ (one_tr t (blk_new w1 _) trivial hc ((Hs.out.ext Hx1.out).alloc _)) (by decide) (fun x hx => by simp at hx; subst hx; exact Hwf.out)).mono ?_; rw [hf]; rintro _ w2 ⟨rfl, hx2⟩; have hx12 := Keeps.trans ((Keeps.refl (fun _ => True) w1).alloc _) hx2; have g2 := Ext.blk hx12 Hg1.out; have s0 := blk_cell g2 0 rfl; have s1 := blk_cell g2 1 rfl; have s2 := blk_cell g2 2 rfl; have s3 := blk_cell g2 3 rfl; have s4 := blk_cell g2 4 rfl; have Hg2 := Lib.hid g2; have Hx2 := Lib.hid (Hx1.out.trans hx12); clear hx2 hx12 g2))
    go_ret
    exact ⟨rfl, Hx2.out⟩
  by_cases h5 : 1000 < less
  · go_enter Tryd.func5, Tryd.ntmps5
    go_wp2_with (first | (go_at_call 11; refine (law_lives _).mono ?_; rintro _ w1 ⟨rfl, hx1⟩; have g1 := hx1.blk (blk_new w _); have r0 := blk_cell g1 0 rfl; have r1 := blk_cell g1 1 rfl; have r2 := blk_cell g1 2 rfl; have r3 := blk_cell g1 3 rfl; have r4 := blk_cell g1 4 rfl; have Hg1 := Lib.hid g1; have Hx1 := Lib.hid (Keeps.trans ((Keeps.refl (fun _ => True) w).alloc _) hx1); clear hx1 g1) | (go_at_call 12; refine (law_few (some ⟨w1.heap.size, 0, none⟩) 1 1 [t] (fun _ => True) _ (one_tr t (blk_new w1 _) trivial hc ((Hs.out.ext Hx1.out).alloc _)) (by decide) (fun x hx => by simp at hx; subst hx; exact Hwf.out)).mono ?_; rw [hf]; rintro _ w2 ⟨rfl, hx2⟩; have hx12 := Keeps.trans ((Keeps.refl (fun _ => True) w1).alloc _) hx2; have g2 := Ext.blk hx12 Hg1.out; have s0 := blk_cell g2 0 rfl; have s1 := blk_cell g2 1 rfl; have s2 := blk_cell g2 2 rfl; have s3 := blk_cell g2 3 rfl; have s4 := blk_cell g2 4 rfl; have Hg2 := Lib.hid g2; have Hx2 := Lib.hid (Hx1.out.trans hx12); clear hx2 hx12 g2))
    go_ret
    exact ⟨rfl, Hx2.out⟩
  have hpm : person.size < maxLen := lt_maxLen hp
  cases hm : mayT t
  · go_enter Tryd.func5, Tryd.ntmps5
    go_upto_region 6 with (first | (go_at_call 11; refine (law_lives _).mono ?_; rintro _ w1 ⟨rfl, hx1⟩; have g1 := hx1.blk (blk_new w _); have r0 := blk_cell g1 0 rfl; have r1 := blk_cell g1 1 rfl; have r2 := blk_cell g1 2 rfl; have r3 := blk_cell g1 3 rfl; have r4 := blk_cell g1 4 rfl; have Hg1 := Lib.hid g1; have Hx1 := Lib.hid (Keeps.trans ((Keeps.refl (fun _ => True) w).alloc _) hx1); clear hx1 g1) | (go_at_call 12; refine (law_few (some ⟨w1.heap.size, 0, none⟩) 1 1 [t] (fun _ => True) _ (one_tr t (blk_new w1 _) trivial hc ((Hs.out.ext Hx1.out).alloc _)) (by decide) (fun x hx => by simp at hx; subst hx; exact Hwf.out)).mono ?_; rw [hf]; rintro _ w2 ⟨rfl, hx2⟩; have hx12 := Keeps.trans ((Keeps.refl (fun _ => True) w1).alloc _) hx2; have g2 := Ext.blk hx12 Hg1.out; have s0 := blk_cell g2 0 rfl; have s1 := blk_cell g2 1 rfl; have s2 := blk_cell g2 2 rfl; have s3 := blk_cell g2 3 rfl; have s4 := blk_cell g2 4 rfl; have Hg2 := Lib.hid g2; have Hx2 := Lib.hid (Hx1.out.trans hx12); clear hx2 hx12 g2))
    clear r0 r1 r2 r3 r4
    have hlt2 : w.heap.size < w2.heap.size := (Array.getElem?_eq_some_iff.1 Hg2.out).1
    go_cut [] (fun wc => ∃ l h : Int, wc.heap[w2.heap.size]? = some (.cells #[.string t.name, .string t.layer, .int .i64 l, .int .i64 h, .slice A t.arms.length c] 24) ∧ Ext w2 wc)
    case first =>
      go_region
      all_goals (go_wp2_with fail; go_meet)
      all_goals exact ⟨_, _, blk_drew (blk_new _ _), (by repeat (first | with_reducible exact Keeps.refl _ _ | with_reducible refine Keeps.drew ?_ | with_reducible refine Keeps.drewN ?_ _ | with_reducible refine Keeps.alloc ?_ _))⟩
    case rest =>
      obtain ⟨l, h, _, hxc⟩ := hcut
      have g3 := Ext.blk hxc Hg2.out
      have q0 := blk_cell g3 0 rfl
      have q1 := blk_cell g3 1 rfl
      have q2 := blk_cell g3 2 rfl
      have q3 := blk_cell g3 3 rfl
      have q4 := blk_cell g3 4 rfl
      have Hxc := Lib.hid (Hx2.out.trans hxc)
      clear hxc g3 s0 s1 s2 s3 s4
      go_wp2_with fail
      refine (law_to2 _ _ _ _ _ _ _ _).mono ?_
      rintro _ x1 ⟨rfl, e1⟩
      have E1 := Lib.hid (Hxc.out.trans e1)
      clear e1 q0 q1 q2 q3 q4
      go_wp2_with fail
      refine (tr_May t A c (fun _ => True) _ (Hs.out.ext E1.out) hc Hwf.out).mono ?_
      rw [hm]
      rintro _ x2 ⟨rfl, e2⟩
      have E2 := Lib.hid (E1.out.trans e2)
      clear e2
      go_wp2_with fail
      go_ret
      exact ⟨rfl, E2.out⟩
  have hpt := mayT_parts hm
  have b1 := hpt.lo
  have b2 := hpt.lt
  have b3 := hpt.hi
  have ht := inT_iff hm person
  have hBin := bucketT_in t.layer person
  have hlay : t.layer.size < maxLen := by have := nameB_size hpt.layer; unfold maxLen; omega
  obtain ⟨B, hB⟩ : ∃ B, B = bucketT t.layer person := ⟨_, rfl⟩
  have HB := Lib.hid hB
  rw [← hB] at ht hBin
  obtain ⟨l, hl⟩ : ∃ l, l = max (t.lo - less) 0 := ⟨_, rfl⟩
  obtain ⟨h, hh⟩ : ∃ h, h = min (t.hi + more) 1000 := ⟨_, rfl⟩
  have l0 : 0 ≤ l := by omega
  have l1 : l ≤ t.lo := by omega
  have u0 : t.hi ≤ h := by omega
  have u1 : h ≤ 1000 := by omega
  have hmw : mayT (⟨t.name, t.layer, l, h, t.arms⟩ : Tr) = true := mayT_of hm rfl rfl rfl l0 (by show l < h; omega) u1
  have htw := inT_iff hmw person
  simp only at htw
  rw [← hB] at htw
  have HwfW := Lib.hid (show TrWf (⟨t.name, t.layer, l, h, t.arms⟩ : Tr) from ⟨Hwf.out.name, Hwf.out.layer, Hwf.out.n, Hwf.out.i⟩)
  have Hmw := Lib.hid hmw
  have Hl := Lib.hid hl
  have Hh := Lib.hid hh
  have hB0 := hBin.1
  have hB1 := hBin.2
  clear hpt hmw hB hl hh hBin
  by_cases hc1 : B < t.lo
  · by_cases hc2 : B < l
    · skip
      have HI := Lib.hid (show inT t person = false by rw [ht]; simp; omega)
      have HIW := Lib.hid (show inT (⟨t.name, t.layer, l, h, t.arms⟩ : Tr) person = false by rw [htw]; simp; omega)
      obtain ⟨X, hX⟩ : ∃ X, X = armT t person := ⟨_, rfl⟩
      obtain ⟨Y, hY⟩ : ∃ Y, Y = armT (⟨t.name, t.layer, l, h, t.arms⟩ : Tr) person := ⟨_, rfl⟩
      have HAX := Lib.hid (show armT t person = ⟨#[]⟩ from armT_out HI.out)
      have HAW := Lib.hid (show armT (⟨t.name, t.layer, l, h, t.arms⟩ : Tr) person = ⟨#[]⟩ by exact armT_out HIW.out)
      clear ht htw hX hY
      go_enter Tryd.func5, Tryd.ntmps5
      go_upto_region 6 with (first | (go_at_call 11; refine (law_lives _).mono ?_; rintro _ w1 ⟨rfl, hx1⟩; have g1 := hx1.blk (blk_new w _); have r0 := blk_cell g1 0 rfl; have r1 := blk_cell g1 1 rfl; have r2 := blk_cell g1 2 rfl; have r3 := blk_cell g1 3 rfl; have r4 := blk_cell g1 4 rfl; have Hg1 := Lib.hid g1; have Hx1 := Lib.hid (Keeps.trans ((Keeps.refl (fun _ => True) w).alloc _) hx1); clear hx1 g1) | (go_at_call 12; refine (law_few (some ⟨w1.heap.size, 0, none⟩) 1 1 [t] (fun _ => True) _ (one_tr t (blk_new w1 _) trivial hc ((Hs.out.ext Hx1.out).alloc _)) (by decide) (fun x hx => by simp at hx; subst hx; exact Hwf.out)).mono ?_; rw [hf]; rintro _ w2 ⟨rfl, hx2⟩; have hx12 := Keeps.trans ((Keeps.refl (fun _ => True) w1).alloc _) hx2; have g2 := Ext.blk hx12 Hg1.out; have s0 := blk_cell g2 0 rfl; have s1 := blk_cell g2 1 rfl; have s2 := blk_cell g2 2 rfl; have s3 := blk_cell g2 3 rfl; have s4 := blk_cell g2 4 rfl; have Hg2 := Lib.hid g2; have Hx2 := Lib.hid (Hx1.out.trans hx12); clear hx2 hx12 g2))
      clear r0 r1 r2 r3 r4
      have hlt2 : w.heap.size < w2.heap.size := (Array.getElem?_eq_some_iff.1 Hg2.out).1
      go_cut [] (fun wc => wc.heap[w2.heap.size]? = some (.cells #[.string t.name, .string t.layer, .int .i64 l, .int .i64 h, .slice A t.arms.length c] 24) ∧ Ext w2 wc)
      case first =>
        go_region
        all_goals (go_wp2_with fail; go_meet)
        all_goals
          refine ⟨?_, (by repeat (first | with_reducible exact Keeps.refl _ _ | with_reducible refine Keeps.drew ?_ | with_reducible refine Keeps.drewN ?_ _ | with_reducible refine Keeps.alloc ?_ _))⟩
          have e1 : wrap64 (t.lo - less) = t.lo - less := IntWalk.wrap64_in _ (by omega)
          have e2 : wrap64 (t.hi + more) = t.hi + more := IntWalk.wrap64_in _ (by omega)
          rw [Hl.out, Hh.out]
          first | exact blk_drew (blk_new _ _) | (rw [e1, e2]; exact blk_drew (blk_new _ _))
      case rest =>
        obtain ⟨G9, hxc⟩ := hcut
        obtain ⟨X0, hX0⟩ : ∃ X0, X0 = wc := ⟨_, rfl⟩
        rw [← hX0] at G9 hxc ⊢
        clear hX0
        have G4 := Ext.blk hxc Hg2.out
        have hG9 := Lib.hid G9
        have hG4 := Lib.hid G4
        have hEX := Lib.hid (Hx2.out.trans hxc)
        have n0 := blk_cell G4 0 rfl
        have n1 := blk_cell G4 1 rfl
        have n2 := blk_cell G4 2 rfl
        have n3 := blk_cell G4 3 rfl
        have n4 := blk_cell G4 4 rfl
        clear hxc G9 G4 s0 s1 s2 s3 s4 Hl Hh
        go_wp2_with fail
        refine (law_to2 _ _ _ _ _ _ _ _).mono ?_
        rintro _ x1 ⟨rfl, e1⟩
        have E1 := Lib.hid (e1)
        clear e1
        clear n0 n1 n2 n3 n4
        go_wp2_with fail
        refine (tr_May t A c (fun _ => True) _ ((Hs.out.ext hEX.out).ext E1.out) hc Hwf.out).mono ?_
        rw [hm]
        rintro _ x2 ⟨rfl, e2⟩
        have E2 := Lib.hid (E1.out.trans e2)
        clear e2
        have kk := Ext.blk E2.out hG9.out
        have n0 := blk_cell kk 0 rfl
        have n1 := blk_cell kk 1 rfl
        have n2 := blk_cell kk 2 rfl
        have n3 := blk_cell kk 3 rfl
        have n4 := blk_cell kk 4 rfl
        clear kk
        go_wp2_with fail
        refine (law_to2 _ _ _ _ _ _ _ _).mono ?_
        rintro _ x3 ⟨rfl, e3⟩
        have E3 := Lib.hid (E2.out.trans e3)
        clear e3
        clear n0 n1 n2 n3 n4
        go_wp2_with fail
        refine (tr_May (⟨t.name, t.layer, l, h, t.arms⟩ : Tr) A c (fun _ => True) _ ((Hs.out.ext hEX.out).ext E3.out) hc HwfW.out).mono ?_
        rw [Hmw.out]
        rintro _ x4 ⟨rfl, e4⟩
        have E4 := Lib.hid (E3.out.trans e4)
        clear e4
        have kk := Ext.blk E4.out hG4.out
        have n0 := blk_cell kk 0 rfl
        have n1 := blk_cell kk 1 rfl
        have n2 := blk_cell kk 2 rfl
        have n3 := blk_cell kk 3 rfl
        have n4 := blk_cell kk 4 rfl
        clear kk
        go_wp2_with fail
        refine (law_to2 _ _ _ _ _ _ _ _).mono ?_
        rintro _ x5 ⟨rfl, e5⟩
        have E5 := Lib.hid (E4.out.trans e5)
        clear e5
        clear n0 n1 n2 n3 n4
        go_wp2_with fail
        refine (tr_Arm t person A c (fun _ => True) _ ((Hs.out.ext hEX.out).ext E5.out) hc Hwf.out hpm).mono ?_
        rw [HI.out, HAX.out]
        rintro _ x6 ⟨rfl, e6⟩
        have E6 := Lib.hid (E5.out.trans e6)
        clear e6
        have kk := Ext.blk E6.out hG9.out
        have n0 := blk_cell kk 0 rfl
        have n1 := blk_cell kk 1 rfl
        have n2 := blk_cell kk 2 rfl
        have n3 := blk_cell kk 3 rfl
        have n4 := blk_cell kk 4 rfl
        clear kk
        go_wp2_with fail
        refine (law_to2 _ _ _ _ _ _ _ _).mono ?_
        rintro _ x7 ⟨rfl, e7⟩
        have E7 := Lib.hid (E6.out.trans e7)
        clear e7
        clear n0 n1 n2 n3 n4
        go_wp2_with fail
        refine (tr_Arm (⟨t.name, t.layer, l, h, t.arms⟩ : Tr) person A c (fun _ => True) _ ((Hs.out.ext hEX.out).ext E7.out) hc HwfW.out hpm).mono ?_
        rw [HIW.out, HAW.out]
        rintro _ x8 ⟨rfl, e8⟩
        have E8 := Lib.hid (E7.out.trans e8)
        clear e8
        have kk := Ext.blk E8.out hG4.out
        have n0 := blk_cell kk 0 rfl
        have n1 := blk_cell kk 1 rfl
        have n2 := blk_cell kk 2 rfl
        have n3 := blk_cell kk 3 rfl
        have n4 := blk_cell kk 4 rfl
        clear kk
        go_wp2_with fail
        refine (tr_Bucket t.layer person _ hlay hpm).mono ?_
        rw [← HB.out]
        rintro _ x9 ⟨rfl, e9⟩
        have E9 := Lib.hid (E8.out.trans e9)
        clear e9
        clear n0 n1 n2 n3 n4
        have ka := Ext.blk E9.out hG4.out
        have kb := Ext.blk E9.out hG9.out
        have n2 := blk_cell ka 2 rfl
        have n3 := blk_cell ka 3 rfl
        have o2 := blk_cell kb 2 rfl
        have o3 := blk_cell kb 3 rfl
        clear ka kb
        have d0 : decide (B < 0) = false := by simp; omega
        have d1 : decide (1000 ≤ B) = false := by simp; omega
        have d2 : decide (t.lo ≤ B) = false := by simp; omega
        have d3 : decide (l ≤ B) = false := by simp; omega
        go_wp2_with fail
        go_ret
        exact ⟨rfl, hEX.out.trans E9.out⟩
    · skip
      have HI := Lib.hid (show inT t person = false by rw [ht]; simp; omega)
      have HIW := Lib.hid (show inT (⟨t.name, t.layer, l, h, t.arms⟩ : Tr) person = true by rw [htw]; simp; omega)
      obtain ⟨X, hX⟩ : ∃ X, X = armT t person := ⟨_, rfl⟩
      obtain ⟨Y, hY⟩ : ∃ Y, Y = armT (⟨t.name, t.layer, l, h, t.arms⟩ : Tr) person := ⟨_, rfl⟩
      have HAX := Lib.hid (show armT t person = ⟨#[]⟩ from armT_out HI.out)
      have HAW := Lib.hid (show armT (⟨t.name, t.layer, l, h, t.arms⟩ : Tr) person = Y by exact hY.symm)
      clear ht htw hX hY
      go_enter Tryd.func5, Tryd.ntmps5
      go_upto_region 6 with (first | (go_at_call 11; refine (law_lives _).mono ?_; rintro _ w1 ⟨rfl, hx1⟩; have g1 := hx1.blk (blk_new w _); have r0 := blk_cell g1 0 rfl; have r1 := blk_cell g1 1 rfl; have r2 := blk_cell g1 2 rfl; have r3 := blk_cell g1 3 rfl; have r4 := blk_cell g1 4 rfl; have Hg1 := Lib.hid g1; have Hx1 := Lib.hid (Keeps.trans ((Keeps.refl (fun _ => True) w).alloc _) hx1); clear hx1 g1) | (go_at_call 12; refine (law_few (some ⟨w1.heap.size, 0, none⟩) 1 1 [t] (fun _ => True) _ (one_tr t (blk_new w1 _) trivial hc ((Hs.out.ext Hx1.out).alloc _)) (by decide) (fun x hx => by simp at hx; subst hx; exact Hwf.out)).mono ?_; rw [hf]; rintro _ w2 ⟨rfl, hx2⟩; have hx12 := Keeps.trans ((Keeps.refl (fun _ => True) w1).alloc _) hx2; have g2 := Ext.blk hx12 Hg1.out; have s0 := blk_cell g2 0 rfl; have s1 := blk_cell g2 1 rfl; have s2 := blk_cell g2 2 rfl; have s3 := blk_cell g2 3 rfl; have s4 := blk_cell g2 4 rfl; have Hg2 := Lib.hid g2; have Hx2 := Lib.hid (Hx1.out.trans hx12); clear hx2 hx12 g2))
      clear r0 r1 r2 r3 r4
      have hlt2 : w.heap.size < w2.heap.size := (Array.getElem?_eq_some_iff.1 Hg2.out).1
      go_cut [] (fun wc => wc.heap[w2.heap.size]? = some (.cells #[.string t.name, .string t.layer, .int .i64 l, .int .i64 h, .slice A t.arms.length c] 24) ∧ Ext w2 wc)
      case first =>
        go_region
        all_goals (go_wp2_with fail; go_meet)
        all_goals
          refine ⟨?_, (by repeat (first | with_reducible exact Keeps.refl _ _ | with_reducible refine Keeps.drew ?_ | with_reducible refine Keeps.drewN ?_ _ | with_reducible refine Keeps.alloc ?_ _))⟩
          have e1 : wrap64 (t.lo - less) = t.lo - less := IntWalk.wrap64_in _ (by omega)
          have e2 : wrap64 (t.hi + more) = t.hi + more := IntWalk.wrap64_in _ (by omega)
          rw [Hl.out, Hh.out]
          first | exact blk_drew (blk_new _ _) | (rw [e1, e2]; exact blk_drew (blk_new _ _))
      case rest =>
        obtain ⟨G9, hxc⟩ := hcut
        obtain ⟨X0, hX0⟩ : ∃ X0, X0 = wc := ⟨_, rfl⟩
        rw [← hX0] at G9 hxc ⊢
        clear hX0
        have G4 := Ext.blk hxc Hg2.out
        have hG9 := Lib.hid G9
        have hG4 := Lib.hid G4
        have hEX := Lib.hid (Hx2.out.trans hxc)
        have n0 := blk_cell G4 0 rfl
        have n1 := blk_cell G4 1 rfl
        have n2 := blk_cell G4 2 rfl
        have n3 := blk_cell G4 3 rfl
        have n4 := blk_cell G4 4 rfl
        clear hxc G9 G4 s0 s1 s2 s3 s4 Hl Hh
        go_wp2_with fail
        refine (law_to2 _ _ _ _ _ _ _ _).mono ?_
        rintro _ x1 ⟨rfl, e1⟩
        have E1 := Lib.hid (e1)
        clear e1
        clear n0 n1 n2 n3 n4
        go_wp2_with fail
        refine (tr_May t A c (fun _ => True) _ ((Hs.out.ext hEX.out).ext E1.out) hc Hwf.out).mono ?_
        rw [hm]
        rintro _ x2 ⟨rfl, e2⟩
        have E2 := Lib.hid (E1.out.trans e2)
        clear e2
        have kk := Ext.blk E2.out hG9.out
        have n0 := blk_cell kk 0 rfl
        have n1 := blk_cell kk 1 rfl
        have n2 := blk_cell kk 2 rfl
        have n3 := blk_cell kk 3 rfl
        have n4 := blk_cell kk 4 rfl
        clear kk
        go_wp2_with fail
        refine (law_to2 _ _ _ _ _ _ _ _).mono ?_
        rintro _ x3 ⟨rfl, e3⟩
        have E3 := Lib.hid (E2.out.trans e3)
        clear e3
        clear n0 n1 n2 n3 n4
        go_wp2_with fail
        refine (tr_May (⟨t.name, t.layer, l, h, t.arms⟩ : Tr) A c (fun _ => True) _ ((Hs.out.ext hEX.out).ext E3.out) hc HwfW.out).mono ?_
        rw [Hmw.out]
        rintro _ x4 ⟨rfl, e4⟩
        have E4 := Lib.hid (E3.out.trans e4)
        clear e4
        have kk := Ext.blk E4.out hG4.out
        have n0 := blk_cell kk 0 rfl
        have n1 := blk_cell kk 1 rfl
        have n2 := blk_cell kk 2 rfl
        have n3 := blk_cell kk 3 rfl
        have n4 := blk_cell kk 4 rfl
        clear kk
        go_wp2_with fail
        refine (law_to2 _ _ _ _ _ _ _ _).mono ?_
        rintro _ x5 ⟨rfl, e5⟩
        have E5 := Lib.hid (E4.out.trans e5)
        clear e5
        clear n0 n1 n2 n3 n4
        go_wp2_with fail
        refine (tr_Arm t person A c (fun _ => True) _ ((Hs.out.ext hEX.out).ext E5.out) hc Hwf.out hpm).mono ?_
        rw [HI.out, HAX.out]
        rintro _ x6 ⟨rfl, e6⟩
        have E6 := Lib.hid (E5.out.trans e6)
        clear e6
        have kk := Ext.blk E6.out hG9.out
        have n0 := blk_cell kk 0 rfl
        have n1 := blk_cell kk 1 rfl
        have n2 := blk_cell kk 2 rfl
        have n3 := blk_cell kk 3 rfl
        have n4 := blk_cell kk 4 rfl
        clear kk
        go_wp2_with fail
        refine (law_to2 _ _ _ _ _ _ _ _).mono ?_
        rintro _ x7 ⟨rfl, e7⟩
        have E7 := Lib.hid (E6.out.trans e7)
        clear e7
        clear n0 n1 n2 n3 n4
        go_wp2_with fail
        refine (tr_Arm (⟨t.name, t.layer, l, h, t.arms⟩ : Tr) person A c (fun _ => True) _ ((Hs.out.ext hEX.out).ext E7.out) hc HwfW.out hpm).mono ?_
        rw [HIW.out, HAW.out]
        rintro _ x8 ⟨rfl, e8⟩
        have E8 := Lib.hid (E7.out.trans e8)
        clear e8
        have kk := Ext.blk E8.out hG4.out
        have n0 := blk_cell kk 0 rfl
        have n1 := blk_cell kk 1 rfl
        have n2 := blk_cell kk 2 rfl
        have n3 := blk_cell kk 3 rfl
        have n4 := blk_cell kk 4 rfl
        clear kk
        go_wp2_with fail
        refine (tr_Bucket t.layer person _ hlay hpm).mono ?_
        rw [← HB.out]
        rintro _ x9 ⟨rfl, e9⟩
        have E9 := Lib.hid (E8.out.trans e9)
        clear e9
        clear n0 n1 n2 n3 n4
        have ka := Ext.blk E9.out hG4.out
        have kb := Ext.blk E9.out hG9.out
        have n2 := blk_cell ka 2 rfl
        have n3 := blk_cell ka 3 rfl
        have o2 := blk_cell kb 2 rfl
        have o3 := blk_cell kb 3 rfl
        clear ka kb
        have d0 : decide (B < 0) = false := by simp; omega
        have d1 : decide (1000 ≤ B) = false := by simp; omega
        have d2 : decide (t.lo ≤ B) = false := by simp; omega
        have d3 : decide (l ≤ B) = true := by simp; omega
        have d4 : decide (B < h) = true := by simp; omega
        go_wp2_with fail
        go_ret
        exact ⟨rfl, hEX.out.trans E9.out⟩
  by_cases hc3 : t.hi ≤ B
  · by_cases hc4 : h ≤ B
    · skip
      have HI := Lib.hid (show inT t person = false by rw [ht]; simp; omega)
      have HIW := Lib.hid (show inT (⟨t.name, t.layer, l, h, t.arms⟩ : Tr) person = false by rw [htw]; simp; omega)
      obtain ⟨X, hX⟩ : ∃ X, X = armT t person := ⟨_, rfl⟩
      obtain ⟨Y, hY⟩ : ∃ Y, Y = armT (⟨t.name, t.layer, l, h, t.arms⟩ : Tr) person := ⟨_, rfl⟩
      have HAX := Lib.hid (show armT t person = ⟨#[]⟩ from armT_out HI.out)
      have HAW := Lib.hid (show armT (⟨t.name, t.layer, l, h, t.arms⟩ : Tr) person = ⟨#[]⟩ by exact armT_out HIW.out)
      clear ht htw hX hY
      go_enter Tryd.func5, Tryd.ntmps5
      go_upto_region 6 with (first | (go_at_call 11; refine (law_lives _).mono ?_; rintro _ w1 ⟨rfl, hx1⟩; have g1 := hx1.blk (blk_new w _); have r0 := blk_cell g1 0 rfl; have r1 := blk_cell g1 1 rfl; have r2 := blk_cell g1 2 rfl; have r3 := blk_cell g1 3 rfl; have r4 := blk_cell g1 4 rfl; have Hg1 := Lib.hid g1; have Hx1 := Lib.hid (Keeps.trans ((Keeps.refl (fun _ => True) w).alloc _) hx1); clear hx1 g1) | (go_at_call 12; refine (law_few (some ⟨w1.heap.size, 0, none⟩) 1 1 [t] (fun _ => True) _ (one_tr t (blk_new w1 _) trivial hc ((Hs.out.ext Hx1.out).alloc _)) (by decide) (fun x hx => by simp at hx; subst hx; exact Hwf.out)).mono ?_; rw [hf]; rintro _ w2 ⟨rfl, hx2⟩; have hx12 := Keeps.trans ((Keeps.refl (fun _ => True) w1).alloc _) hx2; have g2 := Ext.blk hx12 Hg1.out; have s0 := blk_cell g2 0 rfl; have s1 := blk_cell g2 1 rfl; have s2 := blk_cell g2 2 rfl; have s3 := blk_cell g2 3 rfl; have s4 := blk_cell g2 4 rfl; have Hg2 := Lib.hid g2; have Hx2 := Lib.hid (Hx1.out.trans hx12); clear hx2 hx12 g2))
      clear r0 r1 r2 r3 r4
      have hlt2 : w.heap.size < w2.heap.size := (Array.getElem?_eq_some_iff.1 Hg2.out).1
      go_cut [] (fun wc => wc.heap[w2.heap.size]? = some (.cells #[.string t.name, .string t.layer, .int .i64 l, .int .i64 h, .slice A t.arms.length c] 24) ∧ Ext w2 wc)
      case first =>
        go_region
        all_goals (go_wp2_with fail; go_meet)
        all_goals
          refine ⟨?_, (by repeat (first | with_reducible exact Keeps.refl _ _ | with_reducible refine Keeps.drew ?_ | with_reducible refine Keeps.drewN ?_ _ | with_reducible refine Keeps.alloc ?_ _))⟩
          have e1 : wrap64 (t.lo - less) = t.lo - less := IntWalk.wrap64_in _ (by omega)
          have e2 : wrap64 (t.hi + more) = t.hi + more := IntWalk.wrap64_in _ (by omega)
          rw [Hl.out, Hh.out]
          first | exact blk_drew (blk_new _ _) | (rw [e1, e2]; exact blk_drew (blk_new _ _))
      case rest =>
        obtain ⟨G9, hxc⟩ := hcut
        obtain ⟨X0, hX0⟩ : ∃ X0, X0 = wc := ⟨_, rfl⟩
        rw [← hX0] at G9 hxc ⊢
        clear hX0
        have G4 := Ext.blk hxc Hg2.out
        have hG9 := Lib.hid G9
        have hG4 := Lib.hid G4
        have hEX := Lib.hid (Hx2.out.trans hxc)
        have n0 := blk_cell G4 0 rfl
        have n1 := blk_cell G4 1 rfl
        have n2 := blk_cell G4 2 rfl
        have n3 := blk_cell G4 3 rfl
        have n4 := blk_cell G4 4 rfl
        clear hxc G9 G4 s0 s1 s2 s3 s4 Hl Hh
        go_wp2_with fail
        refine (law_to2 _ _ _ _ _ _ _ _).mono ?_
        rintro _ x1 ⟨rfl, e1⟩
        have E1 := Lib.hid (e1)
        clear e1
        clear n0 n1 n2 n3 n4
        go_wp2_with fail
        refine (tr_May t A c (fun _ => True) _ ((Hs.out.ext hEX.out).ext E1.out) hc Hwf.out).mono ?_
        rw [hm]
        rintro _ x2 ⟨rfl, e2⟩
        have E2 := Lib.hid (E1.out.trans e2)
        clear e2
        have kk := Ext.blk E2.out hG9.out
        have n0 := blk_cell kk 0 rfl
        have n1 := blk_cell kk 1 rfl
        have n2 := blk_cell kk 2 rfl
        have n3 := blk_cell kk 3 rfl
        have n4 := blk_cell kk 4 rfl
        clear kk
        go_wp2_with fail
        refine (law_to2 _ _ _ _ _ _ _ _).mono ?_
        rintro _ x3 ⟨rfl, e3⟩
        have E3 := Lib.hid (E2.out.trans e3)
        clear e3
        clear n0 n1 n2 n3 n4
        go_wp2_with fail
        refine (tr_May (⟨t.name, t.layer, l, h, t.arms⟩ : Tr) A c (fun _ => True) _ ((Hs.out.ext hEX.out).ext E3.out) hc HwfW.out).mono ?_
        rw [Hmw.out]
        rintro _ x4 ⟨rfl, e4⟩
        have E4 := Lib.hid (E3.out.trans e4)
        clear e4
        have kk := Ext.blk E4.out hG4.out
        have n0 := blk_cell kk 0 rfl
        have n1 := blk_cell kk 1 rfl
        have n2 := blk_cell kk 2 rfl
        have n3 := blk_cell kk 3 rfl
        have n4 := blk_cell kk 4 rfl
        clear kk
        go_wp2_with fail
        refine (law_to2 _ _ _ _ _ _ _ _).mono ?_
        rintro _ x5 ⟨rfl, e5⟩
        have E5 := Lib.hid (E4.out.trans e5)
        clear e5
        clear n0 n1 n2 n3 n4
        go_wp2_with fail
        refine (tr_Arm t person A c (fun _ => True) _ ((Hs.out.ext hEX.out).ext E5.out) hc Hwf.out hpm).mono ?_
        rw [HI.out, HAX.out]
        rintro _ x6 ⟨rfl, e6⟩
        have E6 := Lib.hid (E5.out.trans e6)
        clear e6
        have kk := Ext.blk E6.out hG9.out
        have n0 := blk_cell kk 0 rfl
        have n1 := blk_cell kk 1 rfl
        have n2 := blk_cell kk 2 rfl
        have n3 := blk_cell kk 3 rfl
        have n4 := blk_cell kk 4 rfl
        clear kk
        go_wp2_with fail
        refine (law_to2 _ _ _ _ _ _ _ _).mono ?_
        rintro _ x7 ⟨rfl, e7⟩
        have E7 := Lib.hid (E6.out.trans e7)
        clear e7
        clear n0 n1 n2 n3 n4
        go_wp2_with fail
        refine (tr_Arm (⟨t.name, t.layer, l, h, t.arms⟩ : Tr) person A c (fun _ => True) _ ((Hs.out.ext hEX.out).ext E7.out) hc HwfW.out hpm).mono ?_
        rw [HIW.out, HAW.out]
        rintro _ x8 ⟨rfl, e8⟩
        have E8 := Lib.hid (E7.out.trans e8)
        clear e8
        have kk := Ext.blk E8.out hG4.out
        have n0 := blk_cell kk 0 rfl
        have n1 := blk_cell kk 1 rfl
        have n2 := blk_cell kk 2 rfl
        have n3 := blk_cell kk 3 rfl
        have n4 := blk_cell kk 4 rfl
        clear kk
        go_wp2_with fail
        refine (tr_Bucket t.layer person _ hlay hpm).mono ?_
        rw [← HB.out]
        rintro _ x9 ⟨rfl, e9⟩
        have E9 := Lib.hid (E8.out.trans e9)
        clear e9
        clear n0 n1 n2 n3 n4
        have ka := Ext.blk E9.out hG4.out
        have kb := Ext.blk E9.out hG9.out
        have n2 := blk_cell ka 2 rfl
        have n3 := blk_cell ka 3 rfl
        have o2 := blk_cell kb 2 rfl
        have o3 := blk_cell kb 3 rfl
        clear ka kb
        have d0 : decide (B < 0) = false := by simp; omega
        have d1 : decide (1000 ≤ B) = false := by simp; omega
        have d2 : decide (t.lo ≤ B) = true := by simp; omega
        have d3 : decide (B < t.hi) = false := by simp; omega
        have d4 : decide (l ≤ B) = true := by simp; omega
        have d5 : decide (B < h) = false := by simp; omega
        go_wp2_with fail
        go_ret
        exact ⟨rfl, hEX.out.trans E9.out⟩
    · skip
      have HI := Lib.hid (show inT t person = false by rw [ht]; simp; omega)
      have HIW := Lib.hid (show inT (⟨t.name, t.layer, l, h, t.arms⟩ : Tr) person = true by rw [htw]; simp; omega)
      obtain ⟨X, hX⟩ : ∃ X, X = armT t person := ⟨_, rfl⟩
      obtain ⟨Y, hY⟩ : ∃ Y, Y = armT (⟨t.name, t.layer, l, h, t.arms⟩ : Tr) person := ⟨_, rfl⟩
      have HAX := Lib.hid (show armT t person = ⟨#[]⟩ from armT_out HI.out)
      have HAW := Lib.hid (show armT (⟨t.name, t.layer, l, h, t.arms⟩ : Tr) person = Y by exact hY.symm)
      clear ht htw hX hY
      go_enter Tryd.func5, Tryd.ntmps5
      go_upto_region 6 with (first | (go_at_call 11; refine (law_lives _).mono ?_; rintro _ w1 ⟨rfl, hx1⟩; have g1 := hx1.blk (blk_new w _); have r0 := blk_cell g1 0 rfl; have r1 := blk_cell g1 1 rfl; have r2 := blk_cell g1 2 rfl; have r3 := blk_cell g1 3 rfl; have r4 := blk_cell g1 4 rfl; have Hg1 := Lib.hid g1; have Hx1 := Lib.hid (Keeps.trans ((Keeps.refl (fun _ => True) w).alloc _) hx1); clear hx1 g1) | (go_at_call 12; refine (law_few (some ⟨w1.heap.size, 0, none⟩) 1 1 [t] (fun _ => True) _ (one_tr t (blk_new w1 _) trivial hc ((Hs.out.ext Hx1.out).alloc _)) (by decide) (fun x hx => by simp at hx; subst hx; exact Hwf.out)).mono ?_; rw [hf]; rintro _ w2 ⟨rfl, hx2⟩; have hx12 := Keeps.trans ((Keeps.refl (fun _ => True) w1).alloc _) hx2; have g2 := Ext.blk hx12 Hg1.out; have s0 := blk_cell g2 0 rfl; have s1 := blk_cell g2 1 rfl; have s2 := blk_cell g2 2 rfl; have s3 := blk_cell g2 3 rfl; have s4 := blk_cell g2 4 rfl; have Hg2 := Lib.hid g2; have Hx2 := Lib.hid (Hx1.out.trans hx12); clear hx2 hx12 g2))
      clear r0 r1 r2 r3 r4
      have hlt2 : w.heap.size < w2.heap.size := (Array.getElem?_eq_some_iff.1 Hg2.out).1
      go_cut [] (fun wc => wc.heap[w2.heap.size]? = some (.cells #[.string t.name, .string t.layer, .int .i64 l, .int .i64 h, .slice A t.arms.length c] 24) ∧ Ext w2 wc)
      case first =>
        go_region
        all_goals (go_wp2_with fail; go_meet)
        all_goals
          refine ⟨?_, (by repeat (first | with_reducible exact Keeps.refl _ _ | with_reducible refine Keeps.drew ?_ | with_reducible refine Keeps.drewN ?_ _ | with_reducible refine Keeps.alloc ?_ _))⟩
          have e1 : wrap64 (t.lo - less) = t.lo - less := IntWalk.wrap64_in _ (by omega)
          have e2 : wrap64 (t.hi + more) = t.hi + more := IntWalk.wrap64_in _ (by omega)
          rw [Hl.out, Hh.out]
          first | exact blk_drew (blk_new _ _) | (rw [e1, e2]; exact blk_drew (blk_new _ _))
      case rest =>
        obtain ⟨G9, hxc⟩ := hcut
        obtain ⟨X0, hX0⟩ : ∃ X0, X0 = wc := ⟨_, rfl⟩
        rw [← hX0] at G9 hxc ⊢
        clear hX0
        have G4 := Ext.blk hxc Hg2.out
        have hG9 := Lib.hid G9
        have hG4 := Lib.hid G4
        have hEX := Lib.hid (Hx2.out.trans hxc)
        have n0 := blk_cell G4 0 rfl
        have n1 := blk_cell G4 1 rfl
        have n2 := blk_cell G4 2 rfl
        have n3 := blk_cell G4 3 rfl
        have n4 := blk_cell G4 4 rfl
        clear hxc G9 G4 s0 s1 s2 s3 s4 Hl Hh
        go_wp2_with fail
        refine (law_to2 _ _ _ _ _ _ _ _).mono ?_
        rintro _ x1 ⟨rfl, e1⟩
        have E1 := Lib.hid (e1)
        clear e1
        clear n0 n1 n2 n3 n4
        go_wp2_with fail
        refine (tr_May t A c (fun _ => True) _ ((Hs.out.ext hEX.out).ext E1.out) hc Hwf.out).mono ?_
        rw [hm]
        rintro _ x2 ⟨rfl, e2⟩
        have E2 := Lib.hid (E1.out.trans e2)
        clear e2
        have kk := Ext.blk E2.out hG9.out
        have n0 := blk_cell kk 0 rfl
        have n1 := blk_cell kk 1 rfl
        have n2 := blk_cell kk 2 rfl
        have n3 := blk_cell kk 3 rfl
        have n4 := blk_cell kk 4 rfl
        clear kk
        go_wp2_with fail
        refine (law_to2 _ _ _ _ _ _ _ _).mono ?_
        rintro _ x3 ⟨rfl, e3⟩
        have E3 := Lib.hid (E2.out.trans e3)
        clear e3
        clear n0 n1 n2 n3 n4
        go_wp2_with fail
        refine (tr_May (⟨t.name, t.layer, l, h, t.arms⟩ : Tr) A c (fun _ => True) _ ((Hs.out.ext hEX.out).ext E3.out) hc HwfW.out).mono ?_
        rw [Hmw.out]
        rintro _ x4 ⟨rfl, e4⟩
        have E4 := Lib.hid (E3.out.trans e4)
        clear e4
        have kk := Ext.blk E4.out hG4.out
        have n0 := blk_cell kk 0 rfl
        have n1 := blk_cell kk 1 rfl
        have n2 := blk_cell kk 2 rfl
        have n3 := blk_cell kk 3 rfl
        have n4 := blk_cell kk 4 rfl
        clear kk
        go_wp2_with fail
        refine (law_to2 _ _ _ _ _ _ _ _).mono ?_
        rintro _ x5 ⟨rfl, e5⟩
        have E5 := Lib.hid (E4.out.trans e5)
        clear e5
        clear n0 n1 n2 n3 n4
        go_wp2_with fail
        refine (tr_Arm t person A c (fun _ => True) _ ((Hs.out.ext hEX.out).ext E5.out) hc Hwf.out hpm).mono ?_
        rw [HI.out, HAX.out]
        rintro _ x6 ⟨rfl, e6⟩
        have E6 := Lib.hid (E5.out.trans e6)
        clear e6
        have kk := Ext.blk E6.out hG9.out
        have n0 := blk_cell kk 0 rfl
        have n1 := blk_cell kk 1 rfl
        have n2 := blk_cell kk 2 rfl
        have n3 := blk_cell kk 3 rfl
        have n4 := blk_cell kk 4 rfl
        clear kk
        go_wp2_with fail
        refine (law_to2 _ _ _ _ _ _ _ _).mono ?_
        rintro _ x7 ⟨rfl, e7⟩
        have E7 := Lib.hid (E6.out.trans e7)
        clear e7
        clear n0 n1 n2 n3 n4
        go_wp2_with fail
        refine (tr_Arm (⟨t.name, t.layer, l, h, t.arms⟩ : Tr) person A c (fun _ => True) _ ((Hs.out.ext hEX.out).ext E7.out) hc HwfW.out hpm).mono ?_
        rw [HIW.out, HAW.out]
        rintro _ x8 ⟨rfl, e8⟩
        have E8 := Lib.hid (E7.out.trans e8)
        clear e8
        have kk := Ext.blk E8.out hG4.out
        have n0 := blk_cell kk 0 rfl
        have n1 := blk_cell kk 1 rfl
        have n2 := blk_cell kk 2 rfl
        have n3 := blk_cell kk 3 rfl
        have n4 := blk_cell kk 4 rfl
        clear kk
        go_wp2_with fail
        refine (tr_Bucket t.layer person _ hlay hpm).mono ?_
        rw [← HB.out]
        rintro _ x9 ⟨rfl, e9⟩
        have E9 := Lib.hid (E8.out.trans e9)
        clear e9
        clear n0 n1 n2 n3 n4
        have ka := Ext.blk E9.out hG4.out
        have kb := Ext.blk E9.out hG9.out
        have n2 := blk_cell ka 2 rfl
        have n3 := blk_cell ka 3 rfl
        have o2 := blk_cell kb 2 rfl
        have o3 := blk_cell kb 3 rfl
        clear ka kb
        have d0 : decide (B < 0) = false := by simp; omega
        have d1 : decide (1000 ≤ B) = false := by simp; omega
        have d2 : decide (t.lo ≤ B) = true := by simp; omega
        have d3 : decide (B < t.hi) = false := by simp; omega
        have d4 : decide (l ≤ B) = true := by simp; omega
        have d5 : decide (B < h) = true := by simp; omega
        go_wp2_with fail
        go_ret
        exact ⟨rfl, hEX.out.trans E9.out⟩
  · skip
    have HI := Lib.hid (show inT t person = true by rw [ht]; simp; omega)
    have HIW := Lib.hid (show inT (⟨t.name, t.layer, l, h, t.arms⟩ : Tr) person = true by rw [htw]; simp; omega)
    obtain ⟨X, hX⟩ : ∃ X, X = armT t person := ⟨_, rfl⟩
    obtain ⟨Y, hY⟩ : ∃ Y, Y = armT (⟨t.name, t.layer, l, h, t.arms⟩ : Tr) person := ⟨_, rfl⟩
    have HAX := Lib.hid (show armT t person = X from hX.symm)
    have HAW := Lib.hid (show armT (⟨t.name, t.layer, l, h, t.arms⟩ : Tr) person = X by rw [hX]; exact armT_same HI.out HIW.out rfl rfl)
    have hXb : (X == (⟨#[]⟩ : ByteArray)) = false := beq_bytes_false.2 (by rw [hX]; exact armT_ne HI.out)
    rw [beq_toListBytes] at hXb
    have hXc : X.toList ≠ [] := fun e => by rw [e] at hXb; exact absurd hXb (by decide +kernel)
    have hXd : X.toList.isEmpty = false := by cases hq : X.toList with | nil => exact absurd hq hXc | cons => rfl
    clear ht htw hX hY
    go_enter Tryd.func5, Tryd.ntmps5
    go_upto_region 6 with (first | (go_at_call 11; refine (law_lives _).mono ?_; rintro _ w1 ⟨rfl, hx1⟩; have g1 := hx1.blk (blk_new w _); have r0 := blk_cell g1 0 rfl; have r1 := blk_cell g1 1 rfl; have r2 := blk_cell g1 2 rfl; have r3 := blk_cell g1 3 rfl; have r4 := blk_cell g1 4 rfl; have Hg1 := Lib.hid g1; have Hx1 := Lib.hid (Keeps.trans ((Keeps.refl (fun _ => True) w).alloc _) hx1); clear hx1 g1) | (go_at_call 12; refine (law_few (some ⟨w1.heap.size, 0, none⟩) 1 1 [t] (fun _ => True) _ (one_tr t (blk_new w1 _) trivial hc ((Hs.out.ext Hx1.out).alloc _)) (by decide) (fun x hx => by simp at hx; subst hx; exact Hwf.out)).mono ?_; rw [hf]; rintro _ w2 ⟨rfl, hx2⟩; have hx12 := Keeps.trans ((Keeps.refl (fun _ => True) w1).alloc _) hx2; have g2 := Ext.blk hx12 Hg1.out; have s0 := blk_cell g2 0 rfl; have s1 := blk_cell g2 1 rfl; have s2 := blk_cell g2 2 rfl; have s3 := blk_cell g2 3 rfl; have s4 := blk_cell g2 4 rfl; have Hg2 := Lib.hid g2; have Hx2 := Lib.hid (Hx1.out.trans hx12); clear hx2 hx12 g2))
    clear r0 r1 r2 r3 r4
    have hlt2 : w.heap.size < w2.heap.size := (Array.getElem?_eq_some_iff.1 Hg2.out).1
    go_cut [] (fun wc => wc.heap[w2.heap.size]? = some (.cells #[.string t.name, .string t.layer, .int .i64 l, .int .i64 h, .slice A t.arms.length c] 24) ∧ Ext w2 wc)
    case first =>
      go_region
      all_goals (go_wp2_with fail; go_meet)
      all_goals
        refine ⟨?_, (by repeat (first | with_reducible exact Keeps.refl _ _ | with_reducible refine Keeps.drew ?_ | with_reducible refine Keeps.drewN ?_ _ | with_reducible refine Keeps.alloc ?_ _))⟩
        have e1 : wrap64 (t.lo - less) = t.lo - less := IntWalk.wrap64_in _ (by omega)
        have e2 : wrap64 (t.hi + more) = t.hi + more := IntWalk.wrap64_in _ (by omega)
        rw [Hl.out, Hh.out]
        first | exact blk_drew (blk_new _ _) | (rw [e1, e2]; exact blk_drew (blk_new _ _))
    case rest =>
      obtain ⟨G9, hxc⟩ := hcut
      obtain ⟨X0, hX0⟩ : ∃ X0, X0 = wc := ⟨_, rfl⟩
      rw [← hX0] at G9 hxc ⊢
      clear hX0
      have G4 := Ext.blk hxc Hg2.out
      have hG9 := Lib.hid G9
      have hG4 := Lib.hid G4
      have hEX := Lib.hid (Hx2.out.trans hxc)
      have n0 := blk_cell G4 0 rfl
      have n1 := blk_cell G4 1 rfl
      have n2 := blk_cell G4 2 rfl
      have n3 := blk_cell G4 3 rfl
      have n4 := blk_cell G4 4 rfl
      clear hxc G9 G4 s0 s1 s2 s3 s4 Hl Hh
      go_wp2_with fail
      refine (law_to2 _ _ _ _ _ _ _ _).mono ?_
      rintro _ x1 ⟨rfl, e1⟩
      have E1 := Lib.hid (e1)
      clear e1
      clear n0 n1 n2 n3 n4
      go_wp2_with fail
      refine (tr_May t A c (fun _ => True) _ ((Hs.out.ext hEX.out).ext E1.out) hc Hwf.out).mono ?_
      rw [hm]
      rintro _ x2 ⟨rfl, e2⟩
      have E2 := Lib.hid (E1.out.trans e2)
      clear e2
      have kk := Ext.blk E2.out hG9.out
      have n0 := blk_cell kk 0 rfl
      have n1 := blk_cell kk 1 rfl
      have n2 := blk_cell kk 2 rfl
      have n3 := blk_cell kk 3 rfl
      have n4 := blk_cell kk 4 rfl
      clear kk
      go_wp2_with fail
      refine (law_to2 _ _ _ _ _ _ _ _).mono ?_
      rintro _ x3 ⟨rfl, e3⟩
      have E3 := Lib.hid (E2.out.trans e3)
      clear e3
      clear n0 n1 n2 n3 n4
      go_wp2_with fail
      refine (tr_May (⟨t.name, t.layer, l, h, t.arms⟩ : Tr) A c (fun _ => True) _ ((Hs.out.ext hEX.out).ext E3.out) hc HwfW.out).mono ?_
      rw [Hmw.out]
      rintro _ x4 ⟨rfl, e4⟩
      have E4 := Lib.hid (E3.out.trans e4)
      clear e4
      have kk := Ext.blk E4.out hG4.out
      have n0 := blk_cell kk 0 rfl
      have n1 := blk_cell kk 1 rfl
      have n2 := blk_cell kk 2 rfl
      have n3 := blk_cell kk 3 rfl
      have n4 := blk_cell kk 4 rfl
      clear kk
      go_wp2_with fail
      refine (law_to2 _ _ _ _ _ _ _ _).mono ?_
      rintro _ x5 ⟨rfl, e5⟩
      have E5 := Lib.hid (E4.out.trans e5)
      clear e5
      clear n0 n1 n2 n3 n4
      go_wp2_with fail
      refine (tr_Arm t person A c (fun _ => True) _ ((Hs.out.ext hEX.out).ext E5.out) hc Hwf.out hpm).mono ?_
      rw [HI.out, HAX.out]
      rintro _ x6 ⟨rfl, e6⟩
      have E6 := Lib.hid (E5.out.trans e6)
      clear e6
      have kk := Ext.blk E6.out hG9.out
      have n0 := blk_cell kk 0 rfl
      have n1 := blk_cell kk 1 rfl
      have n2 := blk_cell kk 2 rfl
      have n3 := blk_cell kk 3 rfl
      have n4 := blk_cell kk 4 rfl
      clear kk
      go_wp2_with fail
      refine (law_to2 _ _ _ _ _ _ _ _).mono ?_
      rintro _ x7 ⟨rfl, e7⟩
      have E7 := Lib.hid (E6.out.trans e7)
      clear e7
      clear n0 n1 n2 n3 n4
      go_wp2_with fail
      refine (tr_Arm (⟨t.name, t.layer, l, h, t.arms⟩ : Tr) person A c (fun _ => True) _ ((Hs.out.ext hEX.out).ext E7.out) hc HwfW.out hpm).mono ?_
      rw [HIW.out, HAW.out]
      rintro _ x8 ⟨rfl, e8⟩
      have E8 := Lib.hid (E7.out.trans e8)
      clear e8
      have kk := Ext.blk E8.out hG4.out
      have n0 := blk_cell kk 0 rfl
      have n1 := blk_cell kk 1 rfl
      have n2 := blk_cell kk 2 rfl
      have n3 := blk_cell kk 3 rfl
      have n4 := blk_cell kk 4 rfl
      clear kk
      go_wp2_with fail
      refine (tr_Bucket t.layer person _ hlay hpm).mono ?_
      rw [← HB.out]
      rintro _ x9 ⟨rfl, e9⟩
      have E9 := Lib.hid (E8.out.trans e9)
      clear e9
      clear n0 n1 n2 n3 n4
      have ka := Ext.blk E9.out hG4.out
      have kb := Ext.blk E9.out hG9.out
      have n2 := blk_cell ka 2 rfl
      have n3 := blk_cell ka 3 rfl
      have o2 := blk_cell kb 2 rfl
      have o3 := blk_cell kb 3 rfl
      clear ka kb
      have d0 : decide (B < 0) = false := by simp; omega
      have d1 : decide (1000 ≤ B) = false := by simp; omega
      have d2 : decide (t.lo ≤ B) = true := by simp; omega
      have d3 : decide (B < t.hi) = true := by simp; omega
      have d4 : decide (l ≤ B) = true := by simp; omega
      have d5 : decide (B < h) = true := by simp; omega
      go_wp2_with fail
      go_ret
      exact ⟨rfl, hEX.out.trans E9.out⟩
end Go.Proofs.YtdkgphambjnbiaaDoor
