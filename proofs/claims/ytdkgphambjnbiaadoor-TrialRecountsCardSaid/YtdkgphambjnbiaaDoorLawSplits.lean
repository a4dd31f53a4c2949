/-
  What is proved here: the law TrialSplits returns true, whatever the trial, the place and the person, and leaves old memory as it was. Conditions: no text is longer than a text can be.
-/
import Derived.Test.YtdkgphambjnbiaaDoorTrLives
import Derived.RegionTactic
namespace Go.Proofs.YtdkgphambjnbiaaDoor
open Go Go.RowKit Go.Proofs
attribute [local go_sem ↓] Go.wp_at_zero Go.wp_at_succ

theorem law_to2 (a b : ByteArray) (l h : Int) (A : Option Addr) (n c : Nat) (w : World) :
    Calls Tryd.prog 13 #[.agg #[.string a, .string b, .int .i64 l, .int .i64 h, .slice A n c]] w fun r w' => r = .returned (.agg #[.string a, .string b, .int .i64 l, .int .i64 h, .slice A n c]) ∧ Ext w w' := by
  go_enter Tryd.func13, Tryd.ntmps13
  go_wp2_with fail
  refine bodyPost_ret (v := .agg #[.string a, .string b, .int .i64 l, .int .i64 h, .slice A n c]) (by simp [results, Tryd.results13, go_sem]) rfl ⟨rfl, ?_⟩
  repeat (first | with_reducible exact Keeps.refl _ _ | with_reducible exact Keeps.refl _ _ | with_reducible refine Keeps.drew ?_ | with_reducible refine Keeps.drewN ?_ _ | with_reducible refine Keeps.alloc ?_ _ | with_reducible refine Keeps.setCell ?_ (by first | (intro h; simp at h; done) | (intro _; simp; done) | (intro _; simp; omega) | (intro h; simp at h; omega)) _)
theorem mayT_of {t u : Tr} (h : mayT t = true) (h1 : u.name = t.name) (h2 : u.layer = t.layer) (h3 : u.arms = t.arms) (h4 : 0 ≤ u.lo) (h5 : u.lo < u.hi) (h6 : u.hi ≤ 1000) : mayT u = true := by
  have p := mayT_parts h
  rw [mayT_mid (by rw [h1]; exact p.name) (by rw [h2]; exact p.layer) h4 h5 h6 (by rw [h3]; exact p.one) (by rw [h3]; exact p.few), h3]
  exact p.arms
theorem inT_iff {t : Tr} (h : mayT t = true) (person : ByteArray) : inT t person = (!decide (bucketT t.layer person < t.lo) && !decide (t.hi ≤ bucketT t.layer person)) := by unfold inT; rw [h]; rfl
theorem armT_out {t : Tr} {person : ByteArray} (h : inT t person = false) : armT t person = ⟨#[]⟩ := by unfold armT; rw [h]; rfl
theorem armT_same {t u : Tr} {person : ByteArray} (h : inT t person = true) (h' : inT u person = true) (h1 : u.name = t.name) (h3 : u.arms = t.arms) : armT u person = armT t person := by
  unfold armT armNo; rw [h, h', h1, h3]
theorem armT_ne {t : Tr} {person : ByteArray} (h : inT t person = true) : armT t person ≠ ⟨#[]⟩ := by
  have hm : mayT t = true := by simp only [inT, Bool.and_eq_true] at h; exact h.1.1
  have hp := mayT_parts hm
  have hat := armT_at h
  have hl : (armNo t person).toNat < t.arms.length := (List.getElem?_eq_some_iff.1 hat).1
  have hok := List.all_eq_true.1 hp.arms _ (List.mem_range.2 hl)
  intro e
  rw [e] at hat
  rw [armOk_name hat (by decide +kernel)] at hok
  cases hok

set_option maxRecDepth 100000 in
set_option maxHeartbeats 8000000 in
theorem law_Splits (t : Tr) (z : Int) (person : ByteArray) (A : Option Addr) (c : Nat) (ok : Nat → Prop) (w : World) (hs : Sl strR ok w A t.arms.length t.arms) (hc : t.arms.length ≤ c) (hwf : TrWf t) (hp : person.size ≤ 140737488355328) :
    Calls Tryd.prog 6 #[.agg #[.string t.name, .string t.layer, .int .i64 t.lo, .int .i64 t.hi, .slice A t.arms.length c], .int .i64 z, .string person] w fun r w' => r = .returned (.bool true) ∧ Ext w w' := by
  have Hs := Lib.hid (show Sl strR (fun _ => True) w A t.arms.length t.arms from hs.mono (fun _ _ _ => trivial))
  have Hwf := Lib.hid hwf
  clear hs hwf
  cases hf : fewTs [t]
  · go_enter Tryd.func6, Tryd.ntmps6
    go_wp2_with (first | (go_at_call 11; refine (law_lives _).mono ?_; rintro _ w1 ⟨rfl, hx1⟩; have g1 := hx1.blk (blk_new w _); have r0 := blk_cell g1 0 rfl; have r1 := blk_cell g1 1 rfl; have r2 := blk_cell g1 2 rfl; have r3 := blk_cell g1 3 rfl; have r4 := blk_cell g1 4 rfl; have Hg1 := Lib.hid g1; have Hx1 := Lib.hid (Keeps.trans ((Keeps.refl (fun _ => True) w).alloc _) hx1); clear hx1 g1) | (go_at_call 12; refine (law_few (some ⟨w1.heap.size, 0, none⟩) 1 1 [t] (fun _ => True) _ (one_tr t (blk_new w1 _) trivial hc ((Hs.out.ext Hx1.out).alloc _)) (by decide) (fun x hx => by simp at hx; subst hx; exact Hwf.out)).mono ?_; rw [hf]; rintro _ w2 ⟨rfl, hx2⟩; have hx12 := Keeps.trans ((Keeps.refl (fun _ => True) w1).alloc _) hx2; have g2 := Ext.blk hx12 Hg1.out; have s0 := blk_cell g2 0 rfl; have s1 := blk_cell g2 1 rfl; have s2 := blk_cell g2 2 rfl; have s3 := blk_cell g2 3 rfl; have s4 := blk_cell g2 4 rfl; have Hg2 := Lib.hid g2; have Hx2 := Lib.hid (Hx1.out.trans hx12); clear hx2 hx12 g2))
    go_ret
    exact ⟨rfl, Hx2.out⟩
  by_cases h300 : 300 < person.size
  · go_enter Tryd.func6, Tryd.ntmps6
    go_wp2_with (first | (go_at_call 11; refine (law_lives _).mono ?_; rintro _ w1 ⟨rfl, hx1⟩; have g1 := hx1.blk (blk_new w _); have r0 := blk_cell g1 0 rfl; have r1 := blk_cell g1 1 rfl; have r2 := blk_cell g1 2 rfl; have r3 := blk_cell g1 3 rfl; have r4 := blk_cell g1 4 rfl; have Hg1 := Lib.hid g1; have Hx1 := Lib.hid (Keeps.trans ((Keeps.refl (fun _ => True) w).alloc _) hx1); clear hx1 g1) | (go_at_call 12; refine (law_few (some ⟨w1.heap.size, 0, none⟩) 1 1 [t] (fun _ => True) _ (one_tr t (blk_new w1 _) trivial hc ((Hs.out.ext Hx1.out).alloc _)) (by decide) (fun x hx => by simp at hx; subst hx; exact Hwf.out)).mono ?_; rw [hf]; rintro _ w2 ⟨rfl, hx2⟩; have hx12 := Keeps.trans ((Keeps.refl (fun _ => True) w1).alloc _) hx2; have g2 := Ext.blk hx12 Hg1.out; have s0 := blk_cell g2 0 rfl; have s1 := blk_cell g2 1 rfl; have s2 := blk_cell g2 2 rfl; have s3 := blk_cell g2 3 rfl; have s4 := blk_cell g2 4 rfl; have Hg2 := Lib.hid g2; have Hx2 := Lib.hid (Hx1.out.trans hx12); clear hx2 hx12 g2))
    go_ret
    exact ⟨rfl, Hx2.out⟩
  cases hm : mayT t
  · go_enter Tryd.func6, Tryd.ntmps6
    go_wp2_with (first
      | (go_at_call 11; refine (law_lives _).mono ?_; rintro _ w1 ⟨rfl, hx1⟩; have g1 := hx1.blk (blk_new w _); have r0 := blk_cell g1 0 rfl; have r1 := blk_cell g1 1 rfl; have r2 := blk_cell g1 2 rfl; have r3 := blk_cell g1 3 rfl; have r4 := blk_cell g1 4 rfl; have Hg1 := Lib.hid g1; have Hx1 := Lib.hid (Keeps.trans ((Keeps.refl (fun _ => True) w).alloc _) hx1); clear hx1 g1)
      | (go_at_call 12; refine (law_few (some ⟨w1.heap.size, 0, none⟩) 1 1 [t] (fun _ => True) _ (one_tr t (blk_new w1 _) trivial hc ((Hs.out.ext Hx1.out).alloc _)) (by decide) (fun x hx => by simp at hx; subst hx; exact Hwf.out)).mono ?_; rw [hf]; rintro _ w2 ⟨rfl, hx2⟩; have hx12 := Keeps.trans ((Keeps.refl (fun _ => True) w1).alloc _) hx2; have g2 := Ext.blk hx12 Hg1.out; have s0 := blk_cell g2 0 rfl; have s1 := blk_cell g2 1 rfl; have s2 := blk_cell g2 2 rfl; have s3 := blk_cell g2 3 rfl; have s4 := blk_cell g2 4 rfl; have Hg2 := Lib.hid g2; have Hx2 := Lib.hid (Hx1.out.trans hx12); clear hx2 hx12 g2)
      | (go_at_call 13; refine (law_to t A c _).mono ?_; rintro _ w3 ⟨rfl, hx3⟩; have Hx3 := Lib.hid (Hx2.out.trans hx3); have g3 := Ext.blk hx3 Hg2.out; have Hg3 := Lib.hid g3; clear hx3 g3)
      | (go_at_call 16; refine (tr_May t A c (fun _ => True) _ (Hs.out.ext Hx3.out) hc Hwf.out).mono ?_; rw [hm]; rintro _ w4 ⟨rfl, hx4⟩; have g4 := hx4.blk Hg3.out; have q0 := blk_cell g4 0 rfl; have q1 := blk_cell g4 1 rfl; have q2 := blk_cell g4 2 rfl; have q3 := blk_cell g4 3 rfl; have q4 := blk_cell g4 4 rfl; have Hg4 := Lib.hid g4; have Hx4 := Lib.hid (Hx3.out.trans hx4); clear hx4 g4))
    go_ret
    exact ⟨rfl, Hx4.out⟩
  by_cases hz1 : z ≤ t.lo
  · go_enter Tryd.func6, Tryd.ntmps6
    go_wp2_with (first
      | (go_at_call 11; refine (law_lives _).mono ?_; rintro _ w1 ⟨rfl, hx1⟩; have g1 := hx1.blk (blk_new w _); have r0 := blk_cell g1 0 rfl; have r1 := blk_cell g1 1 rfl; have r2 := blk_cell g1 2 rfl; have r3 := blk_cell g1 3 rfl; have r4 := blk_cell g1 4 rfl; have Hg1 := Lib.hid g1; have Hx1 := Lib.hid (Keeps.trans ((Keeps.refl (fun _ => True) w).alloc _) hx1); clear hx1 g1)
      | (go_at_call 12; refine (law_few (some ⟨w1.heap.size, 0, none⟩) 1 1 [t] (fun _ => True) _ (one_tr t (blk_new w1 _) trivial hc ((Hs.out.ext Hx1.out).alloc _)) (by decide) (fun x hx => by simp at hx; subst hx; exact Hwf.out)).mono ?_; rw [hf]; rintro _ w2 ⟨rfl, hx2⟩; have hx12 := Keeps.trans ((Keeps.refl (fun _ => True) w1).alloc _) hx2; have g2 := Ext.blk hx12 Hg1.out; have s0 := blk_cell g2 0 rfl; have s1 := blk_cell g2 1 rfl; have s2 := blk_cell g2 2 rfl; have s3 := blk_cell g2 3 rfl; have s4 := blk_cell g2 4 rfl; have Hg2 := Lib.hid g2; have Hx2 := Lib.hid (Hx1.out.trans hx12); clear hx2 hx12 g2)
      | (go_at_call 13; refine (law_to t A c _).mono ?_; rintro _ w3 ⟨rfl, hx3⟩; have Hx3 := Lib.hid (Hx2.out.trans hx3); have g3 := Ext.blk hx3 Hg2.out; have Hg3 := Lib.hid g3; clear hx3 g3)
      | (go_at_call 16; refine (tr_May t A c (fun _ => True) _ (Hs.out.ext Hx3.out) hc Hwf.out).mono ?_; rw [hm]; rintro _ w4 ⟨rfl, hx4⟩; have g4 := hx4.blk Hg3.out; have q0 := blk_cell g4 0 rfl; have q1 := blk_cell g4 1 rfl; have q2 := blk_cell g4 2 rfl; have q3 := blk_cell g4 3 rfl; have q4 := blk_cell g4 4 rfl; have Hg4 := Lib.hid g4; have Hx4 := Lib.hid (Hx3.out.trans hx4); clear hx4 g4))
    go_ret
    exact ⟨rfl, Hx4.out⟩
  by_cases hz2 : t.hi ≤ z
  · go_enter Tryd.func6, Tryd.ntmps6
    go_wp2_with (first
      | (go_at_call 11; refine (law_lives _).mono ?_; rintro _ w1 ⟨rfl, hx1⟩; have g1 := hx1.blk (blk_new w _); have r0 := blk_cell g1 0 rfl; have r1 := blk_cell g1 1 rfl; have r2 := blk_cell g1 2 rfl; have r3 := blk_cell g1 3 rfl; have r4 := blk_cell g1 4 rfl; have Hg1 := Lib.hid g1; have Hx1 := Lib.hid (Keeps.trans ((Keeps.refl (fun _ => True) w).alloc _) hx1); clear hx1 g1)
      | (go_at_call 12; refine (law_few (some ⟨w1.heap.size, 0, none⟩) 1 1 [t] (fun _ => True) _ (one_tr t (blk_new w1 _) trivial hc ((Hs.out.ext Hx1.out).alloc _)) (by decide) (fun x hx => by simp at hx; subst hx; exact Hwf.out)).mono ?_; rw [hf]; rintro _ w2 ⟨rfl, hx2⟩; have hx12 := Keeps.trans ((Keeps.refl (fun _ => True) w1).alloc _) hx2; have g2 := Ext.blk hx12 Hg1.out; have s0 := blk_cell g2 0 rfl; have s1 := blk_cell g2 1 rfl; have s2 := blk_cell g2 2 rfl; have s3 := blk_cell g2 3 rfl; have s4 := blk_cell g2 4 rfl; have Hg2 := Lib.hid g2; have Hx2 := Lib.hid (Hx1.out.trans hx12); clear hx2 hx12 g2)
      | (go_at_call 13; refine (law_to t A c _).mono ?_; rintro _ w3 ⟨rfl, hx3⟩; have Hx3 := Lib.hid (Hx2.out.trans hx3); have g3 := Ext.blk hx3 Hg2.out; have Hg3 := Lib.hid g3; clear hx3 g3)
      | (go_at_call 16; refine (tr_May t A c (fun _ => True) _ (Hs.out.ext Hx3.out) hc Hwf.out).mono ?_; rw [hm]; rintro _ w4 ⟨rfl, hx4⟩; have g4 := hx4.blk Hg3.out; have q0 := blk_cell g4 0 rfl; have q1 := blk_cell g4 1 rfl; have q2 := blk_cell g4 2 rfl; have q3 := blk_cell g4 3 rfl; have q4 := blk_cell g4 4 rfl; have Hg4 := Lib.hid g4; have Hx4 := Lib.hid (Hx3.out.trans hx4); clear hx4 g4))
    go_ret
    exact ⟨rfl, Hx4.out⟩
  have hpt := mayT_parts hm
  have hpm : person.size < maxLen := lt_maxLen hp
  have b1 := hpt.lo
  have b2 := hpt.lt
  have b3 := hpt.hi
  have hma : mayT (⟨t.name, t.layer, t.lo, z, t.arms⟩ : Tr) = true := mayT_of hm rfl rfl rfl b1 (by show t.lo < z; omega) (by show z ≤ 1000; omega)
  have hmb : mayT (⟨t.name, t.layer, z, t.hi, t.arms⟩ : Tr) = true := mayT_of hm rfl rfl rfl (by show 0 ≤ z; omega) (by show z < t.hi; omega) b3
  have ht := inT_iff hm person
  have hta := inT_iff hma person
  have htb := inT_iff hmb person
  simp only at hta htb
  generalize bucketT t.layer person = B at ht hta htb
  have HwfA := Lib.hid (show TrWf (⟨t.name, t.layer, t.lo, z, t.arms⟩ : Tr) from ⟨Hwf.out.name, Hwf.out.layer, Hwf.out.n, Hwf.out.i⟩)
  have HwfB := Lib.hid (show TrWf (⟨t.name, t.layer, z, t.hi, t.arms⟩ : Tr) from ⟨Hwf.out.name, Hwf.out.layer, Hwf.out.n, Hwf.out.i⟩)
  have Hma := Lib.hid hma
  have Hmb := Lib.hid hmb
  clear hpt hma hmb
  by_cases hB1 : B < t.lo ∨ t.hi ≤ B
  · skip
    have HI := Lib.hid (show inT t person = false by rw [ht]; simp; omega)
    have HIA := Lib.hid (show inT (⟨t.name, t.layer, t.lo, z, t.arms⟩ : Tr) person = false by rw [hta]; simp; omega)
    have HIB := Lib.hid (show inT (⟨t.name, t.layer, z, t.hi, t.arms⟩ : Tr) person = false by rw [htb]; simp; omega)
    obtain ⟨X, hX⟩ : ∃ X, X = armT t person := ⟨_, rfl⟩
    have HX := Lib.hid hX
    have HAX := Lib.hid (show armT t person = ⟨#[]⟩ by exact armT_out HI.out)
    have HAA := Lib.hid (show armT (⟨t.name, t.layer, t.lo, z, t.arms⟩ : Tr) person = ⟨#[]⟩ by exact armT_out HIA.out)
    have HAB := Lib.hid (show armT (⟨t.name, t.layer, z, t.hi, t.arms⟩ : Tr) person = ⟨#[]⟩ by exact armT_out HIB.out)
    clear ht hta htb hX
    go_enter Tryd.func6, Tryd.ntmps6
    go_upto_region 5 with (first
      | (go_at_call 11; refine (law_lives _).mono ?_; rintro _ w1 ⟨rfl, hx1⟩; have g1 := hx1.blk (blk_new w _); have r0 := blk_cell g1 0 rfl; have r1 := blk_cell g1 1 rfl; have r2 := blk_cell g1 2 rfl; have r3 := blk_cell g1 3 rfl; have r4 := blk_cell g1 4 rfl; have Hg1 := Lib.hid g1; have Hx1 := Lib.hid (Keeps.trans ((Keeps.refl (fun _ => True) w).alloc _) hx1); clear hx1 g1)
      | (go_at_call 12; refine (law_few (some ⟨w1.heap.size, 0, none⟩) 1 1 [t] (fun _ => True) _ (one_tr t (blk_new w1 _) trivial hc ((Hs.out.ext Hx1.out).alloc _)) (by decide) (fun x hx => by simp at hx; subst hx; exact Hwf.out)).mono ?_; rw [hf]; rintro _ w2 ⟨rfl, hx2⟩; have hx12 := Keeps.trans ((Keeps.refl (fun _ => True) w1).alloc _) hx2; have g2 := Ext.blk hx12 Hg1.out; have s0 := blk_cell g2 0 rfl; have s1 := blk_cell g2 1 rfl; have s2 := blk_cell g2 2 rfl; have s3 := blk_cell g2 3 rfl; have s4 := blk_cell g2 4 rfl; have Hg2 := Lib.hid g2; have Hx2 := Lib.hid (Hx1.out.trans hx12); clear hx2 hx12 g2)
      | (go_at_call 13; refine (law_to t A c _).mono ?_; rintro _ w3 ⟨rfl, hx3⟩; have Hx3 := Lib.hid (Hx2.out.trans hx3); have g3 := Ext.blk hx3 Hg2.out; have Hg3 := Lib.hid g3; clear hx3 g3)
      | (go_at_call 16; refine (tr_May t A c (fun _ => True) _ (Hs.out.ext Hx3.out) hc Hwf.out).mono ?_; rw [hm]; rintro _ w4 ⟨rfl, hx4⟩; have g4 := hx4.blk Hg3.out; have q0 := blk_cell g4 0 rfl; have q1 := blk_cell g4 1 rfl; have q2 := blk_cell g4 2 rfl; have q3 := blk_cell g4 3 rfl; have q4 := blk_cell g4 4 rfl; have Hg4 := Lib.hid g4; have Hx4 := Lib.hid (Hx3.out.trans hx4); clear hx4 g4))
    clear r0 r1 r2 r3 r4 s0 s1 s2 s3 s4
    have hlt4 : w.heap.size < w4.heap.size := (Array.getElem?_eq_some_iff.1 Hg4.out).1
    go_cut [7, 8] (fun p7 p8 wc => ∃ g7 g8, p7 = .pointer (some ⟨g7, 0, none⟩) ∧ p8 = .pointer (some ⟨g8, 0, none⟩) ∧ g7 ≠ g8 ∧ w4.heap.size ≤ g7 ∧ w4.heap.size ≤ g8 ∧ wc.heap[g7]? = some (.cells #[.string t.name, .string t.layer, .int .i64 t.lo, .int .i64 t.hi, .slice A t.arms.length c] 24) ∧ wc.heap[g8]? = some (.cells #[.string t.name, .string t.layer, .int .i64 t.lo, .int .i64 t.hi, .slice A t.arms.length c] 24) ∧ Ext w4 wc)
    case first =>
      go_region
      all_goals (go_wp2_with fail; go_meet)
      · first
          | exact ⟨w4.heap.size, w4.heap.size + 1, rfl, rfl, by omega, Nat.le_refl _, by omega, blk_drew (blk_old (blk_new _ _) _), blk_drew (blk_new' _ _ _ (by simp)), (by repeat (first | with_reducible exact Keeps.refl _ _ | with_reducible refine Keeps.drew ?_ | with_reducible refine Keeps.drewN ?_ _ | with_reducible refine Keeps.alloc ?_ _))⟩
          | exact ⟨w4.heap.size + 1, w4.heap.size, rfl, rfl, by omega, by omega, Nat.le_refl _, blk_drew (blk_new' _ _ _ (by simp)), blk_drew (blk_old (blk_new _ _) _), (by repeat (first | with_reducible exact Keeps.refl _ _ | with_reducible refine Keeps.drew ?_ | with_reducible refine Keeps.drewN ?_ _ | with_reducible refine Keeps.alloc ?_ _))⟩
      · first
          | exact ⟨w4.heap.size, w4.heap.size + 1, rfl, rfl, by omega, Nat.le_refl _, by omega, blk_drew (blk_old (blk_new _ _) _), blk_drew (blk_new' _ _ _ (by simp)), (by repeat (first | with_reducible exact Keeps.refl _ _ | with_reducible refine Keeps.drew ?_ | with_reducible refine Keeps.drewN ?_ _ | with_reducible refine Keeps.alloc ?_ _))⟩
          | exact ⟨w4.heap.size + 1, w4.heap.size, rfl, rfl, by omega, by omega, Nat.le_refl _, blk_drew (blk_new' _ _ _ (by simp)), blk_drew (blk_old (blk_new _ _) _), (by repeat (first | with_reducible exact Keeps.refl _ _ | with_reducible refine Keeps.drew ?_ | with_reducible refine Keeps.drewN ?_ _ | with_reducible refine Keeps.alloc ?_ _))⟩
    case rest =>
      obtain ⟨g7, g8, hp7, hp8, hne, hg7, hg8, hb7, hb8, hxc⟩ := hcut
      subst hp7 hp8
      have y7 := blk_cell hb7 3 rfl
      have f7 := blk_free hb7
      have y8 := blk_cell hb8 2 rfl
      have f8 := blk_free hb8
      have Hb7 := Lib.hid hb7
      have Hb8 := Lib.hid hb8
      have Hxc := Lib.hid hxc
      clear q0 q1 q2 q3 q4 hb7 hb8 hxc
      have hne' : g8 ≠ g7 := fun e => hne e.symm
      go_upto_region 7 with fail
      clear y7 f7 y8 f8
      obtain ⟨X, hX⟩ : ∃ X, X = (wc.setCell ⟨g7, 3, none⟩ (.int .i64 z)).setCell ⟨g8, 2, none⟩ (.int .i64 z) := ⟨_, rfl⟩
      rw [← hX]
      have G7 : X.heap[g7]? = some (.cells #[.string t.name, .string t.layer, .int .i64 t.lo, .int .i64 z, .slice A t.arms.length c] 24) := by
        rw [hX]; exact blk_far (by simpa using blk_set Hb7.out 3 (.int .i64 z)) hne _
      have G8 : X.heap[g8]? = some (.cells #[.string t.name, .string t.layer, .int .i64 z, .int .i64 t.hi, .slice A t.arms.length c] 24) := by
        rw [hX]; simpa using blk_set (blk_far Hb8.out hne' (.int .i64 z)) 2 (.int .i64 z)
      have EX : Ext w4 X := by
        have h5 := Hxc.out
        rw [hX]
        repeat (first | with_reducible exact h5 | with_reducible exact Keeps.refl _ _ | with_reducible refine Keeps.drew ?_ | with_reducible refine Keeps.drewN ?_ _ | with_reducible refine Keeps.alloc ?_ _ | with_reducible refine Keeps.setCell ?_ (by first | (intro h; simp at h; done) | (intro _; simp; done) | (intro _; simp; omega) | (intro h; simp at h; omega)) _)
      have G3 := Ext.blk EX Hg4.out
      have hG7 := Lib.hid G7
      have hG8 := Lib.hid G8
      have hEX := Lib.hid (Hx4.out.trans EX)
      have n0 := blk_cell G3 0 rfl
      have n1 := blk_cell G3 1 rfl
      have n2 := blk_cell G3 2 rfl
      have n3 := blk_cell G3 3 rfl
      have n4 := blk_cell G3 4 rfl
      clear hX Hb7 Hb8 Hxc G7 G8 EX G3 Hg4
      go_wp2_with fail
      refine (law_to2 _ _ _ _ _ _ _ _).mono ?_
      rintro _ x1 ⟨rfl, e1⟩
      have E1 := Lib.hid e1
      clear e1 n0 n1 n2 n3 n4
      go_wp2_with fail
      refine (tr_Arm t person A c (fun _ => True) _ ((Hs.out.ext hEX.out).ext E1.out) hc Hwf.out hpm).mono ?_
      rw [HI.out, HAX.out]
      rintro _ x2 ⟨rfl, e2⟩
      have E2 := Lib.hid (E1.out.trans e2)
      clear e2
      have k2 := Ext.blk E2.out hG7.out
      have n0 := blk_cell k2 0 rfl
      have n1 := blk_cell k2 1 rfl
      have n2 := blk_cell k2 2 rfl
      have n3 := blk_cell k2 3 rfl
      have n4 := blk_cell k2 4 rfl
      clear k2
      go_wp2_with fail
      refine (law_to2 _ _ _ _ _ _ _ _).mono ?_
      rintro _ x3 ⟨rfl, e3⟩
      have E3 := Lib.hid (E2.out.trans e3)
      clear e3 n0 n1 n2 n3 n4
      go_wp2_with fail
      refine (tr_Arm (⟨t.name, t.layer, t.lo, z, t.arms⟩ : Tr) person A c (fun _ => True) _ ((Hs.out.ext hEX.out).ext E3.out) hc HwfA.out hpm).mono ?_
      rw [HIA.out, HAA.out]
      rintro _ x4 ⟨rfl, e4⟩
      have E4 := Lib.hid (E3.out.trans e4)
      clear e4
      have k4 := Ext.blk E4.out hG8.out
      have n0 := blk_cell k4 0 rfl
      have n1 := blk_cell k4 1 rfl
      have n2 := blk_cell k4 2 rfl
      have n3 := blk_cell k4 3 rfl
      have n4 := blk_cell k4 4 rfl
      clear k4
      go_wp2_with fail
      refine (law_to2 _ _ _ _ _ _ _ _).mono ?_
      rintro _ x5 ⟨rfl, e5⟩
      have E5 := Lib.hid (E4.out.trans e5)
      clear e5 n0 n1 n2 n3 n4
      go_wp2_with fail
      refine (tr_Arm (⟨t.name, t.layer, z, t.hi, t.arms⟩ : Tr) person A c (fun _ => True) _ ((Hs.out.ext hEX.out).ext E5.out) hc HwfB.out hpm).mono ?_
      rw [HIB.out, HAB.out]
      rintro _ x6 ⟨rfl, e6⟩
      have E6 := Lib.hid (E5.out.trans e6)
      clear e6
      have k6 := Ext.blk E6.out hG7.out
      have n0 := blk_cell k6 0 rfl
      have n1 := blk_cell k6 1 rfl
      have n2 := blk_cell k6 2 rfl
      have n3 := blk_cell k6 3 rfl
      have n4 := blk_cell k6 4 rfl
      clear k6
      go_wp2_with fail
      refine (law_to2 _ _ _ _ _ _ _ _).mono ?_
      rintro _ x7 ⟨rfl, e7⟩
      have E7 := Lib.hid (E6.out.trans e7)
      clear e7 n0 n1 n2 n3 n4
      go_wp2_with fail
      refine (tr_May (⟨t.name, t.layer, t.lo, z, t.arms⟩ : Tr) A c (fun _ => True) _ ((Hs.out.ext hEX.out).ext E7.out) hc HwfA.out).mono ?_
      rw [Hma.out]
      rintro _ x8 ⟨rfl, e8⟩
      have E8 := Lib.hid (E7.out.trans e8)
      clear e8
      have k8 := Ext.blk E8.out hG8.out
      have n0 := blk_cell k8 0 rfl
      have n1 := blk_cell k8 1 rfl
      have n2 := blk_cell k8 2 rfl
      have n3 := blk_cell k8 3 rfl
      have n4 := blk_cell k8 4 rfl
      clear k8
      go_wp2_with fail
      refine (law_to2 _ _ _ _ _ _ _ _).mono ?_
      rintro _ x9 ⟨rfl, e9⟩
      have E9 := Lib.hid (E8.out.trans e9)
      clear e9 n0 n1 n2 n3 n4
      go_wp2_with fail
      refine (tr_May (⟨t.name, t.layer, z, t.hi, t.arms⟩ : Tr) A c (fun _ => True) _ ((Hs.out.ext hEX.out).ext E9.out) hc HwfB.out).mono ?_
      rw [Hmb.out]
      rintro _ x10 ⟨rfl, e10⟩
      have E10 := Lib.hid (E9.out.trans e10)
      clear e10
      go_wp2_with fail
      go_ret
      exact ⟨rfl, hEX.out.trans E10.out⟩
  by_cases hB2 : B < z
  · skip
    have HI := Lib.hid (show inT t person = true by rw [ht]; simp; omega)
    have HIA := Lib.hid (show inT (⟨t.name, t.layer, t.lo, z, t.arms⟩ : Tr) person = true by rw [hta]; simp; omega)
    have HIB := Lib.hid (show inT (⟨t.name, t.layer, z, t.hi, t.arms⟩ : Tr) person = false by rw [htb]; simp; omega)
    obtain ⟨X, hX⟩ : ∃ X, X = armT t person := ⟨_, rfl⟩
    have HX := Lib.hid hX
    have HAX := Lib.hid (show armT t person = X by exact hX.symm)
    have HAA := Lib.hid (show armT (⟨t.name, t.layer, t.lo, z, t.arms⟩ : Tr) person = X by rw [hX]; exact armT_same HI.out HIA.out rfl rfl)
    have HAB := Lib.hid (show armT (⟨t.name, t.layer, z, t.hi, t.arms⟩ : Tr) person = ⟨#[]⟩ by exact armT_out HIB.out)
    clear ht hta htb hX
    go_enter Tryd.func6, Tryd.ntmps6
    go_upto_region 5 with (first
      | (go_at_call 11; refine (law_lives _).mono ?_; rintro _ w1 ⟨rfl, hx1⟩; have g1 := hx1.blk (blk_new w _); have r0 := blk_cell g1 0 rfl; have r1 := blk_cell g1 1 rfl; have r2 := blk_cell g1 2 rfl; have r3 := blk_cell g1 3 rfl; have r4 := blk_cell g1 4 rfl; have Hg1 := Lib.hid g1; have Hx1 := Lib.hid (Keeps.trans ((Keeps.refl (fun _ => True) w).alloc _) hx1); clear hx1 g1)
      | (go_at_call 12; refine (law_few (some ⟨w1.heap.size, 0, none⟩) 1 1 [t] (fun _ => True) _ (one_tr t (blk_new w1 _) trivial hc ((Hs.out.ext Hx1.out).alloc _)) (by decide) (fun x hx => by simp at hx; subst hx; exact Hwf.out)).mono ?_; rw [hf]; rintro _ w2 ⟨rfl, hx2⟩; have hx12 := Keeps.trans ((Keeps.refl (fun _ => True) w1).alloc _) hx2; have g2 := Ext.blk hx12 Hg1.out; have s0 := blk_cell g2 0 rfl; have s1 := blk_cell g2 1 rfl; have s2 := blk_cell g2 2 rfl; have s3 := blk_cell g2 3 rfl; have s4 := blk_cell g2 4 rfl; have Hg2 := Lib.hid g2; have Hx2 := Lib.hid (Hx1.out.trans hx12); clear hx2 hx12 g2)
      | (go_at_call 13; refine (law_to t A c _).mono ?_; rintro _ w3 ⟨rfl, hx3⟩; have Hx3 := Lib.hid (Hx2.out.trans hx3); have g3 := Ext.blk hx3 Hg2.out; have Hg3 := Lib.hid g3; clear hx3 g3)
      | (go_at_call 16; refine (tr_May t A c (fun _ => True) _ (Hs.out.ext Hx3.out) hc Hwf.out).mono ?_; rw [hm]; rintro _ w4 ⟨rfl, hx4⟩; have g4 := hx4.blk Hg3.out; have q0 := blk_cell g4 0 rfl; have q1 := blk_cell g4 1 rfl; have q2 := blk_cell g4 2 rfl; have q3 := blk_cell g4 3 rfl; have q4 := blk_cell g4 4 rfl; have Hg4 := Lib.hid g4; have Hx4 := Lib.hid (Hx3.out.trans hx4); clear hx4 g4))
    clear r0 r1 r2 r3 r4 s0 s1 s2 s3 s4
    have hlt4 : w.heap.size < w4.heap.size := (Array.getElem?_eq_some_iff.1 Hg4.out).1
    go_cut [7, 8] (fun p7 p8 wc => ∃ g7 g8, p7 = .pointer (some ⟨g7, 0, none⟩) ∧ p8 = .pointer (some ⟨g8, 0, none⟩) ∧ g7 ≠ g8 ∧ w4.heap.size ≤ g7 ∧ w4.heap.size ≤ g8 ∧ wc.heap[g7]? = some (.cells #[.string t.name, .string t.layer, .int .i64 t.lo, .int .i64 t.hi, .slice A t.arms.length c] 24) ∧ wc.heap[g8]? = some (.cells #[.string t.name, .string t.layer, .int .i64 t.lo, .int .i64 t.hi, .slice A t.arms.length c] 24) ∧ Ext w4 wc)
    case first =>
      go_region
      all_goals (go_wp2_with fail; go_meet)
      · first
          | exact ⟨w4.heap.size, w4.heap.size + 1, rfl, rfl, by omega, Nat.le_refl _, by omega, blk_drew (blk_old (blk_new _ _) _), blk_drew (blk_new' _ _ _ (by simp)), (by repeat (first | with_reducible exact Keeps.refl _ _ | with_reducible refine Keeps.drew ?_ | with_reducible refine Keeps.drewN ?_ _ | with_reducible refine Keeps.alloc ?_ _))⟩
          | exact ⟨w4.heap.size + 1, w4.heap.size, rfl, rfl, by omega, by omega, Nat.le_refl _, blk_drew (blk_new' _ _ _ (by simp)), blk_drew (blk_old (blk_new _ _) _), (by repeat (first | with_reducible exact Keeps.refl _ _ | with_reducible refine Keeps.drew ?_ | with_reducible refine Keeps.drewN ?_ _ | with_reducible refine Keeps.alloc ?_ _))⟩
      · first
          | exact ⟨w4.heap.size, w4.heap.size + 1, rfl, rfl, by omega, Nat.le_refl _, by omega, blk_drew (blk_old (blk_new _ _) _), blk_drew (blk_new' _ _ _ (by simp)), (by repeat (first | with_reducible exact Keeps.refl _ _ | with_reducible refine Keeps.drew ?_ | with_reducible refine Keeps.drewN ?_ _ | with_reducible refine Keeps.alloc ?_ _))⟩
          | exact ⟨w4.heap.size + 1, w4.heap.size, rfl, rfl, by omega, by omega, Nat.le_refl _, blk_drew (blk_new' _ _ _ (by simp)), blk_drew (blk_old (blk_new _ _) _), (by repeat (first | with_reducible exact Keeps.refl _ _ | with_reducible refine Keeps.drew ?_ | with_reducible refine Keeps.drewN ?_ _ | with_reducible refine Keeps.alloc ?_ _))⟩
    case rest =>
      obtain ⟨g7, g8, hp7, hp8, hne, hg7, hg8, hb7, hb8, hxc⟩ := hcut
      subst hp7 hp8
      have y7 := blk_cell hb7 3 rfl
      have f7 := blk_free hb7
      have y8 := blk_cell hb8 2 rfl
      have f8 := blk_free hb8
      have Hb7 := Lib.hid hb7
      have Hb8 := Lib.hid hb8
      have Hxc := Lib.hid hxc
      clear q0 q1 q2 q3 q4 hb7 hb8 hxc
      have hne' : g8 ≠ g7 := fun e => hne e.symm
      go_upto_region 7 with fail
      clear y7 f7 y8 f8
      obtain ⟨X, hX⟩ : ∃ X, X = (wc.setCell ⟨g7, 3, none⟩ (.int .i64 z)).setCell ⟨g8, 2, none⟩ (.int .i64 z) := ⟨_, rfl⟩
      rw [← hX]
      have G7 : X.heap[g7]? = some (.cells #[.string t.name, .string t.layer, .int .i64 t.lo, .int .i64 z, .slice A t.arms.length c] 24) := by
        rw [hX]; exact blk_far (by simpa using blk_set Hb7.out 3 (.int .i64 z)) hne _
      have G8 : X.heap[g8]? = some (.cells #[.string t.name, .string t.layer, .int .i64 z, .int .i64 t.hi, .slice A t.arms.length c] 24) := by
        rw [hX]; simpa using blk_set (blk_far Hb8.out hne' (.int .i64 z)) 2 (.int .i64 z)
      have EX : Ext w4 X := by
        have h5 := Hxc.out
        rw [hX]
        repeat (first | with_reducible exact h5 | with_reducible exact Keeps.refl _ _ | with_reducible refine Keeps.drew ?_ | with_reducible refine Keeps.drewN ?_ _ | with_reducible refine Keeps.alloc ?_ _ | with_reducible refine Keeps.setCell ?_ (by first | (intro h; simp at h; done) | (intro _; simp; done) | (intro _; simp; omega) | (intro h; simp at h; omega)) _)
      have G3 := Ext.blk EX Hg4.out
      have hG7 := Lib.hid G7
      have hG8 := Lib.hid G8
      have hEX := Lib.hid (Hx4.out.trans EX)
      have n0 := blk_cell G3 0 rfl
      have n1 := blk_cell G3 1 rfl
      have n2 := blk_cell G3 2 rfl
      have n3 := blk_cell G3 3 rfl
      have n4 := blk_cell G3 4 rfl
      clear hX Hb7 Hb8 Hxc G7 G8 EX G3 Hg4
      go_wp2_with fail
      refine (law_to2 _ _ _ _ _ _ _ _).mono ?_
      rintro _ x1 ⟨rfl, e1⟩
      have E1 := Lib.hid e1
      clear e1 n0 n1 n2 n3 n4
      go_wp2_with fail
      refine (tr_Arm t person A c (fun _ => True) _ ((Hs.out.ext hEX.out).ext E1.out) hc Hwf.out hpm).mono ?_
      rw [HI.out, HAX.out]
      rintro _ x2 ⟨rfl, e2⟩
      have E2 := Lib.hid (E1.out.trans e2)
      clear e2
      have k2 := Ext.blk E2.out hG7.out
      have n0 := blk_cell k2 0 rfl
      have n1 := blk_cell k2 1 rfl
      have n2 := blk_cell k2 2 rfl
      have n3 := blk_cell k2 3 rfl
      have n4 := blk_cell k2 4 rfl
      clear k2
      go_wp2_with fail
      refine (law_to2 _ _ _ _ _ _ _ _).mono ?_
      rintro _ x3 ⟨rfl, e3⟩
      have E3 := Lib.hid (E2.out.trans e3)
      clear e3 n0 n1 n2 n3 n4
      go_wp2_with fail
      refine (tr_Arm (⟨t.name, t.layer, t.lo, z, t.arms⟩ : Tr) person A c (fun _ => True) _ ((Hs.out.ext hEX.out).ext E3.out) hc HwfA.out hpm).mono ?_
      rw [HIA.out, HAA.out]
      rintro _ x4 ⟨rfl, e4⟩
      have E4 := Lib.hid (E3.out.trans e4)
      clear e4
      have k4 := Ext.blk E4.out hG8.out
      have n0 := blk_cell k4 0 rfl
      have n1 := blk_cell k4 1 rfl
      have n2 := blk_cell k4 2 rfl
      have n3 := blk_cell k4 3 rfl
      have n4 := blk_cell k4 4 rfl
      clear k4
      go_wp2_with fail
      refine (law_to2 _ _ _ _ _ _ _ _).mono ?_
      rintro _ x5 ⟨rfl, e5⟩
      have E5 := Lib.hid (E4.out.trans e5)
      clear e5 n0 n1 n2 n3 n4
      go_wp2_with fail
      refine (tr_Arm (⟨t.name, t.layer, z, t.hi, t.arms⟩ : Tr) person A c (fun _ => True) _ ((Hs.out.ext hEX.out).ext E5.out) hc HwfB.out hpm).mono ?_
      rw [HIB.out, HAB.out]
      rintro _ x6 ⟨rfl, e6⟩
      have E6 := Lib.hid (E5.out.trans e6)
      clear e6
      have k6 := Ext.blk E6.out hG7.out
      have n0 := blk_cell k6 0 rfl
      have n1 := blk_cell k6 1 rfl
      have n2 := blk_cell k6 2 rfl
      have n3 := blk_cell k6 3 rfl
      have n4 := blk_cell k6 4 rfl
      clear k6
      go_wp2_with fail
      refine (law_to2 _ _ _ _ _ _ _ _).mono ?_
      rintro _ x7 ⟨rfl, e7⟩
      have E7 := Lib.hid (E6.out.trans e7)
      clear e7 n0 n1 n2 n3 n4
      go_wp2_with fail
      refine (tr_May (⟨t.name, t.layer, t.lo, z, t.arms⟩ : Tr) A c (fun _ => True) _ ((Hs.out.ext hEX.out).ext E7.out) hc HwfA.out).mono ?_
      rw [Hma.out]
      rintro _ x8 ⟨rfl, e8⟩
      have E8 := Lib.hid (E7.out.trans e8)
      clear e8
      have k8 := Ext.blk E8.out hG8.out
      have n0 := blk_cell k8 0 rfl
      have n1 := blk_cell k8 1 rfl
      have n2 := blk_cell k8 2 rfl
      have n3 := blk_cell k8 3 rfl
      have n4 := blk_cell k8 4 rfl
      clear k8
      go_wp2_with fail
      refine (law_to2 _ _ _ _ _ _ _ _).mono ?_
      rintro _ x9 ⟨rfl, e9⟩
      have E9 := Lib.hid (E8.out.trans e9)
      clear e9 n0 n1 n2 n3 n4
      go_wp2_with fail
      refine (tr_May (⟨t.name, t.layer, z, t.hi, t.arms⟩ : Tr) A c (fun _ => True) _ ((Hs.out.ext hEX.out).ext E9.out) hc HwfB.out).mono ?_
      rw [Hmb.out]
      rintro _ x10 ⟨rfl, e10⟩
      have E10 := Lib.hid (E9.out.trans e10)
      clear e10
      go_wp2_with fail
      go_ret
      exact ⟨rfl, hEX.out.trans E10.out⟩
  · skip
    have HI := Lib.hid (show inT t person = true by rw [ht]; simp; omega)
    have HIA := Lib.hid (show inT (⟨t.name, t.layer, t.lo, z, t.arms⟩ : Tr) person = false by rw [hta]; simp; omega)
    have HIB := Lib.hid (show inT (⟨t.name, t.layer, z, t.hi, t.arms⟩ : Tr) person = true by rw [htb]; simp; omega)
    obtain ⟨X, hX⟩ : ∃ X, X = armT t person := ⟨_, rfl⟩
    have HX := Lib.hid hX
    have HAX := Lib.hid (show armT t person = X by exact hX.symm)
    have HAA := Lib.hid (show armT (⟨t.name, t.layer, t.lo, z, t.arms⟩ : Tr) person = ⟨#[]⟩ by exact armT_out HIA.out)
    have HAB := Lib.hid (show armT (⟨t.name, t.layer, z, t.hi, t.arms⟩ : Tr) person = X by rw [hX]; exact armT_same HI.out HIB.out rfl rfl)
    clear ht hta htb hX
    go_enter Tryd.func6, Tryd.ntmps6
    go_upto_region 5 with (first
      | (go_at_call 11; refine (law_lives _).mono ?_; rintro _ w1 ⟨rfl, hx1⟩; have g1 := hx1.blk (blk_new w _); have r0 := blk_cell g1 0 rfl; have r1 := blk_cell g1 1 rfl; have r2 := blk_cell g1 2 rfl; have r3 := blk_cell g1 3 rfl; have r4 := blk_cell g1 4 rfl; have Hg1 := Lib.hid g1; have Hx1 := Lib.hid (Keeps.trans ((Keeps.refl (fun _ => True) w).alloc _) hx1); clear hx1 g1)
      | (go_at_call 12; refine (law_few (some ⟨w1.heap.size, 0, none⟩) 1 1 [t] (fun _ => True) _ (one_tr t (blk_new w1 _) trivial hc ((Hs.out.ext Hx1.out).alloc _)) (by decide) (fun x hx => by simp at hx; subst hx; exact Hwf.out)).mono ?_; rw [hf]; rintro _ w2 ⟨rfl, hx2⟩; have hx12 := Keeps.trans ((Keeps.refl (fun _ => True) w1).alloc _) hx2; have g2 := Ext.blk hx12 Hg1.out; have s0 := blk_cell g2 0 rfl; have s1 := blk_cell g2 1 rfl; have s2 := blk_cell g2 2 rfl; have s3 := blk_cell g2 3 rfl; have s4 := blk_cell g2 4 rfl; have Hg2 := Lib.hid g2; have Hx2 := Lib.hid (Hx1.out.trans hx12); clear hx2 hx12 g2)
      | (go_at_call 13; refine (law_to t A c _).mono ?_; rintro _ w3 ⟨rfl, hx3⟩; have Hx3 := Lib.hid (Hx2.out.trans hx3); have g3 := Ext.blk hx3 Hg2.out; have Hg3 := Lib.hid g3; clear hx3 g3)
      | (go_at_call 16; refine (tr_May t A c (fun _ => True) _ (Hs.out.ext Hx3.out) hc Hwf.out).mono ?_; rw [hm]; rintro _ w4 ⟨rfl, hx4⟩; have g4 := hx4.blk Hg3.out; have q0 := blk_cell g4 0 rfl; have q1 := blk_cell g4 1 rfl; have q2 := blk_cell g4 2 rfl; have q3 := blk_cell g4 3 rfl; have q4 := blk_cell g4 4 rfl; have Hg4 := Lib.hid g4; have Hx4 := Lib.hid (Hx3.out.trans hx4); clear hx4 g4))
    clear r0 r1 r2 r3 r4 s0 s1 s2 s3 s4
    have hlt4 : w.heap.size < w4.heap.size := (Array.getElem?_eq_some_iff.1 Hg4.out).1
    go_cut [7, 8] (fun p7 p8 wc => ∃ g7 g8, p7 = .pointer (some ⟨g7, 0, none⟩) ∧ p8 = .pointer (some ⟨g8, 0, none⟩) ∧ g7 ≠ g8 ∧ w4.heap.size ≤ g7 ∧ w4.heap.size ≤ g8 ∧ wc.heap[g7]? = some (.cells #[.string t.name, .string t.layer, .int .i64 t.lo, .int .i64 t.hi, .slice A t.arms.length c] 24) ∧ wc.heap[g8]? = some (.cells #[.string t.name, .string t.layer, .int .i64 t.lo, .int .i64 t.hi, .slice A t.arms.length c] 24) ∧ Ext w4 wc)
    case first =>
      go_region
      all_goals (go_wp2_with fail; go_meet)
      · first
          | exact ⟨w4.heap.size, w4.heap.size + 1, rfl, rfl, by omega, Nat.le_refl _, by omega, blk_drew (blk_old (blk_new _ _) _), blk_drew (blk_new' _ _ _ (by simp)), (by repeat (first | with_reducible exact Keeps.refl _ _ | with_reducible refine Keeps.drew ?_ | with_reducible refine Keeps.drewN ?_ _ | with_reducible refine Keeps.alloc ?_ _))⟩
          | exact ⟨w4.heap.size + 1, w4.heap.size, rfl, rfl, by omega, by omega, Nat.le_refl _, blk_drew (blk_new' _ _ _ (by simp)), blk_drew (blk_old (blk_new _ _) _), (by repeat (first | with_reducible exact Keeps.refl _ _ | with_reducible refine Keeps.drew ?_ | with_reducible refine Keeps.drewN ?_ _ | with_reducible refine Keeps.alloc ?_ _))⟩
      · first
          | exact ⟨w4.heap.size, w4.heap.size + 1, rfl, rfl, by omega, Nat.le_refl _, by omega, blk_drew (blk_old (blk_new _ _) _), blk_drew (blk_new' _ _ _ (by simp)), (by repeat (first | with_reducible exact Keeps.refl _ _ | with_reducible refine Keeps.drew ?_ | with_reducible refine Keeps.drewN ?_ _ | with_reducible refine Keeps.alloc ?_ _))⟩
          | exact ⟨w4.heap.size + 1, w4.heap.size, rfl, rfl, by omega, by omega, Nat.le_refl _, blk_drew (blk_new' _ _ _ (by simp)), blk_drew (blk_old (blk_new _ _) _), (by repeat (first | with_reducible exact Keeps.refl _ _ | with_reducible refine Keeps.drew ?_ | with_reducible refine Keeps.drewN ?_ _ | with_reducible refine Keeps.alloc ?_ _))⟩
    case rest =>
      obtain ⟨g7, g8, hp7, hp8, hne, hg7, hg8, hb7, hb8, hxc⟩ := hcut
      subst hp7 hp8
      have y7 := blk_cell hb7 3 rfl
      have f7 := blk_free hb7
      have y8 := blk_cell hb8 2 rfl
      have f8 := blk_free hb8
      have Hb7 := Lib.hid hb7
      have Hb8 := Lib.hid hb8
      have Hxc := Lib.hid hxc
      clear q0 q1 q2 q3 q4 hb7 hb8 hxc
      have hne' : g8 ≠ g7 := fun e => hne e.symm
      go_upto_region 7 with fail
      clear y7 f7 y8 f8
      obtain ⟨X, hX⟩ : ∃ X, X = (wc.setCell ⟨g7, 3, none⟩ (.int .i64 z)).setCell ⟨g8, 2, none⟩ (.int .i64 z) := ⟨_, rfl⟩
      rw [← hX]
      have G7 : X.heap[g7]? = some (.cells #[.string t.name, .string t.layer, .int .i64 t.lo, .int .i64 z, .slice A t.arms.length c] 24) := by
        rw [hX]; exact blk_far (by simpa using blk_set Hb7.out 3 (.int .i64 z)) hne _
      have G8 : X.heap[g8]? = some (.cells #[.string t.name, .string t.layer, .int .i64 z, .int .i64 t.hi, .slice A t.arms.length c] 24) := by
        rw [hX]; simpa using blk_set (blk_far Hb8.out hne' (.int .i64 z)) 2 (.int .i64 z)
      have EX : Ext w4 X := by
        have h5 := Hxc.out
        rw [hX]
        repeat (first | with_reducible exact h5 | with_reducible exact Keeps.refl _ _ | with_reducible refine Keeps.drew ?_ | with_reducible refine Keeps.drewN ?_ _ | with_reducible refine Keeps.alloc ?_ _ | with_reducible refine Keeps.setCell ?_ (by first | (intro h; simp at h; done) | (intro _; simp; done) | (intro _; simp; omega) | (intro h; simp at h; omega)) _)
      have G3 := Ext.blk EX Hg4.out
      have hG7 := Lib.hid G7
      have hG8 := Lib.hid G8
      have hEX := Lib.hid (Hx4.out.trans EX)
      have n0 := blk_cell G3 0 rfl
      have n1 := blk_cell G3 1 rfl
      have n2 := blk_cell G3 2 rfl
      have n3 := blk_cell G3 3 rfl
      have n4 := blk_cell G3 4 rfl
      clear hX Hb7 Hb8 Hxc G7 G8 EX G3 Hg4
      go_wp2_with fail
      refine (law_to2 _ _ _ _ _ _ _ _).mono ?_
      rintro _ x1 ⟨rfl, e1⟩
      have E1 := Lib.hid e1
      clear e1 n0 n1 n2 n3 n4
      go_wp2_with fail
      refine (tr_Arm t person A c (fun _ => True) _ ((Hs.out.ext hEX.out).ext E1.out) hc Hwf.out hpm).mono ?_
      rw [HI.out, HAX.out]
      rintro _ x2 ⟨rfl, e2⟩
      have E2 := Lib.hid (E1.out.trans e2)
      clear e2
      have k2 := Ext.blk E2.out hG7.out
      have n0 := blk_cell k2 0 rfl
      have n1 := blk_cell k2 1 rfl
      have n2 := blk_cell k2 2 rfl
      have n3 := blk_cell k2 3 rfl
      have n4 := blk_cell k2 4 rfl
      clear k2
      go_wp2_with fail
      refine (law_to2 _ _ _ _ _ _ _ _).mono ?_
      rintro _ x3 ⟨rfl, e3⟩
      have E3 := Lib.hid (E2.out.trans e3)
      clear e3 n0 n1 n2 n3 n4
      go_wp2_with fail
      refine (tr_Arm (⟨t.name, t.layer, t.lo, z, t.arms⟩ : Tr) person A c (fun _ => True) _ ((Hs.out.ext hEX.out).ext E3.out) hc HwfA.out hpm).mono ?_
      rw [HIA.out, HAA.out]
      rintro _ x4 ⟨rfl, e4⟩
      have E4 := Lib.hid (E3.out.trans e4)
      clear e4
      have k4 := Ext.blk E4.out hG8.out
      have n0 := blk_cell k4 0 rfl
      have n1 := blk_cell k4 1 rfl
      have n2 := blk_cell k4 2 rfl
      have n3 := blk_cell k4 3 rfl
      have n4 := blk_cell k4 4 rfl
      clear k4
      go_wp2_with fail
      refine (law_to2 _ _ _ _ _ _ _ _).mono ?_
      rintro _ x5 ⟨rfl, e5⟩
      have E5 := Lib.hid (E4.out.trans e5)
      clear e5 n0 n1 n2 n3 n4
      go_wp2_with fail
      refine (tr_Arm (⟨t.name, t.layer, z, t.hi, t.arms⟩ : Tr) person A c (fun _ => True) _ ((Hs.out.ext hEX.out).ext E5.out) hc HwfB.out hpm).mono ?_
      rw [HIB.out, HAB.out]
      rintro _ x6 ⟨rfl, e6⟩
      have E6 := Lib.hid (E5.out.trans e6)
      clear e6
      have k6 := Ext.blk E6.out hG7.out
      have n0 := blk_cell k6 0 rfl
      have n1 := blk_cell k6 1 rfl
      have n2 := blk_cell k6 2 rfl
      have n3 := blk_cell k6 3 rfl
      have n4 := blk_cell k6 4 rfl
      clear k6
      go_wp2_with fail
      refine (law_to2 _ _ _ _ _ _ _ _).mono ?_
      rintro _ x7 ⟨rfl, e7⟩
      have E7 := Lib.hid (E6.out.trans e7)
      clear e7 n0 n1 n2 n3 n4
      go_wp2_with fail
      refine (tr_May (⟨t.name, t.layer, t.lo, z, t.arms⟩ : Tr) A c (fun _ => True) _ ((Hs.out.ext hEX.out).ext E7.out) hc HwfA.out).mono ?_
      rw [Hma.out]
      rintro _ x8 ⟨rfl, e8⟩
      have E8 := Lib.hid (E7.out.trans e8)
      clear e8
      have k8 := Ext.blk E8.out hG8.out
      have n0 := blk_cell k8 0 rfl
      have n1 := blk_cell k8 1 rfl
      have n2 := blk_cell k8 2 rfl
      have n3 := blk_cell k8 3 rfl
      have n4 := blk_cell k8 4 rfl
      clear k8
      go_wp2_with fail
      refine (law_to2 _ _ _ _ _ _ _ _).mono ?_
      rintro _ x9 ⟨rfl, e9⟩
      have E9 := Lib.hid (E8.out.trans e9)
      clear e9 n0 n1 n2 n3 n4
      go_wp2_with fail
      refine (tr_May (⟨t.name, t.layer, z, t.hi, t.arms⟩ : Tr) A c (fun _ => True) _ ((Hs.out.ext hEX.out).ext E9.out) hc HwfB.out).mono ?_
      rw [Hmb.out]
      rintro _ x10 ⟨rfl, e10⟩
      have E10 := Lib.hid (E9.out.trans e10)
      clear e10
      go_wp2_with fail
      go_ret
      exact ⟨rfl, hEX.out.trans E10.out⟩
end Go.Proofs.YtdkgphambjnbiaaDoor
