/-
  What is proved here: the law TrialLayers returns true, whatever the two trials and the person, and leaves old memory as it was. Conditions: no text is longer than a text can be.
-/
import Derived.Test.YtdkgphambjnbiaaDoorTrArms
namespace Go.Proofs.YtdkgphambjnbiaaDoor
open Go Go.RowKit Go.Proofs
attribute [local go_sem ↓] Go.wp_at_zero Go.wp_at_succ

theorem two_tr {ok : Nat → Prop} {W : World} {h : Nat} (t u : Tr) {A B : Option Addr} {c d : Nat} {T : TypeId} {fr : Nat × Nat} (hb : W.heap[h]? = some (.cells #[.string t.name, .string t.layer, .int .i64 t.lo, .int .i64 t.hi, .slice A t.arms.length c, .string u.name, .string u.layer, .int .i64 u.lo, .int .i64 u.hi, .slice B u.arms.length d] T fr)) (hok : ok h) (hc : t.arms.length ≤ c) (hs : Sl strR ok W A t.arms.length t.arms) (hd : u.arms.length ≤ d) (hs2 : Sl strR ok W B u.arms.length u.arms) : Sl trR ok W (some ⟨h, 0, none⟩) 2 [t, u] :=
  Sl.new_flat hb hok rfl fun k a ha => by
    match k, ha with
    | 0, ha =>
      simp at ha; subst ha
      refine ⟨_, ⟨A, c, rfl, hc, hs⟩, fun j v hu => ?_⟩
      match j, hu with
      | 0, hu => simpa using hu
      | 1, hu => simpa using hu
      | 2, hu => simpa using hu
      | 3, hu => simpa using hu
      | 4, hu => simpa using hu
    | 1, ha =>
      simp at ha; subst ha
      refine ⟨_, ⟨B, d, rfl, hd, hs2⟩, fun j v hu => ?_⟩
      match j, hu with
      | 0, hu => simpa [trR] using hu
      | 1, hu => simpa [trR] using hu
      | 2, hu => simpa [trR] using hu
      | 3, hu => simpa [trR] using hu
      | 4, hu => simpa [trR] using hu
theorem clash_two (t u : Tr) : clashT [t, u] = againstT t u := by
  unfold clashT
  simp [List.range_succ, clashB]
theorem arms_two {t u : Tr} {person : ByteArray} (h1 : (t.layer == u.layer) = true) (h2 : (decide (t.lo < u.hi) && decide (u.lo < t.hi)) = false) (ht : mayT t = true) (hu : mayT u = true) : (armsM [t, u] person).length ≤ 1 := by
  have e := beq_bytes.1 h1
  have it := inT_iff ht person
  have iu := inT_iff hu person
  rw [← e] at iu
  generalize bucketT t.layer person = b at it iu
  have hno : ¬ (inT t person = true ∧ inT u person = true) := by
    rintro ⟨x, y⟩
    rw [it] at x
    rw [iu] at y
    simp at x y
    simp at h2
    omega
  unfold armsM
  simp only [List.foldl_cons, List.foldl_nil]
  cases h3 : inT t person <;> cases h4 : inT u person
  · simp
  · simp [putM]
  · simp [putM]
  · exact absurd ⟨h3, h4⟩ hno

set_option maxRecDepth 100000 in
set_option maxHeartbeats 8000000 in
theorem law_Layers (t u : Tr) (person : ByteArray) (A B : Option Addr) (c d : Nat) (ok : Nat → Prop) (w : World) (hs : Sl strR ok w A t.arms.length t.arms) (hc : t.arms.length ≤ c) (hwf : TrWf t) (hs2 : Sl strR ok w B u.arms.length u.arms) (hd : u.arms.length ≤ d) (hwf2 : TrWf u) (hp : person.size ≤ 140737488355328) :
    Calls Tryd.prog 10 #[.agg #[.string t.name, .string t.layer, .int .i64 t.lo, .int .i64 t.hi, .slice A t.arms.length c], .agg #[.string u.name, .string u.layer, .int .i64 u.lo, .int .i64 u.hi, .slice B u.arms.length d], .string person] w fun r w' => r = .returned (.bool true) ∧ Ext w w' := by
  have Hs := Lib.hid (show Sl strR (fun _ => True) w A t.arms.length t.arms from hs.mono (fun _ _ _ => trivial))
  have Hs2 := Lib.hid (show Sl strR (fun _ => True) w B u.arms.length u.arms from hs2.mono (fun _ _ _ => trivial))
  have Hwf := Lib.hid hwf
  have Hwf2 := Lib.hid hwf2
  have Hwfs := Lib.hid (show ∀ x ∈ [t, u], TrWf x from fun x hx => by simp at hx; rcases hx with rfl | rfl; exact hwf; exact hwf2)
  have hpm : person.size < maxLen := lt_maxLen hp
  clear hs hwf hs2 hwf2
  cases hf : fewTs [t, u]
  · skip
    go_enter Tryd.func10, Tryd.ntmps10
    go_wp2_with fail
    have ga0 := blk_old (blk_new w (.cells #[.string t.name, .string t.layer, .int .i64 t.lo, .int .i64 t.hi, .slice A t.arms.length c] 24)) (.cells #[.string u.name, .string u.layer, .int .i64 u.lo, .int .i64 u.hi, .slice B u.arms.length d] 24)
    have gb0 := blk_new' (w.alloc (.cells #[.string t.name, .string t.layer, .int .i64 t.lo, .int .i64 t.hi, .slice A t.arms.length c] 24)) (.cells #[.string u.name, .string u.layer, .int .i64 u.lo, .int .i64 u.hi, .slice B u.arms.length d] 24) (w.heap.size + 1) (by simp)
    have Ga0 := Lib.hid ga0
    have Gb0 := Lib.hid gb0
    clear ga0 gb0
    refine (law_lives _).mono ?_
    rintro _ w1 ⟨rfl, hx1⟩
    have ga := hx1.blk Ga0.out
    have gb := hx1.blk Gb0.out
    have a0 := blk_cell ga 0 rfl; have a1 := blk_cell ga 1 rfl; have a2 := blk_cell ga 2 rfl; have a3 := blk_cell ga 3 rfl; have a4 := blk_cell ga 4 rfl; have b0 := blk_cell gb 0 rfl; have b1 := blk_cell gb 1 rfl; have b2 := blk_cell gb 2 rfl; have b3 := blk_cell gb 3 rfl; have b4 := blk_cell gb 4 rfl
    have Ga := Lib.hid ga
    have Gb := Lib.hid gb
    have Hx1 := Lib.hid (Keeps.trans (((Keeps.refl (fun _ => True) w).alloc _).alloc _) hx1)
    clear hx1 ga gb Ga0 Gb0
    go_wp2_with fail
    refine (law_few (some ⟨w1.heap.size, 0, none⟩) 2 2 [t, u] (fun _ => True) _ (two_tr t u (blk_new w1 _) trivial hc ((Hs.out.ext Hx1.out).alloc _) hd ((Hs2.out.ext Hx1.out).alloc _)) (by decide) Hwfs.out).mono ?_
    rw [hf]
    rintro _ w2 ⟨rfl, hx2⟩
    have hx12 := Keeps.trans ((Keeps.refl (fun _ => True) w1).alloc _) hx2
    clear a0 a1 a2 a3 a4 b0 b1 b2 b3 b4
    have ga := Ext.blk hx12 Ga.out
    have gb := Ext.blk hx12 Gb.out
    have a0 := blk_cell ga 0 rfl; have a1 := blk_cell ga 1 rfl; have a2 := blk_cell ga 2 rfl; have a3 := blk_cell ga 3 rfl; have a4 := blk_cell ga 4 rfl; have b0 := blk_cell gb 0 rfl; have b1 := blk_cell gb 1 rfl; have b2 := blk_cell gb 2 rfl; have b3 := blk_cell gb 3 rfl; have b4 := blk_cell gb 4 rfl
    have Ga2 := Lib.hid ga
    have Gb2 := Lib.hid gb
    have Hx2 := Lib.hid (Hx1.out.trans hx12)
    clear hx2 hx12 ga gb
    go_wp2_with fail
    go_ret
    exact ⟨rfl, Hx2.out⟩
  by_cases h300 : 300 < person.size
  · skip
    go_enter Tryd.func10, Tryd.ntmps10
    go_wp2_with fail
    have ga0 := blk_old (blk_new w (.cells #[.string t.name, .string t.layer, .int .i64 t.lo, .int .i64 t.hi, .slice A t.arms.length c] 24)) (.cells #[.string u.name, .string u.layer, .int .i64 u.lo, .int .i64 u.hi, .slice B u.arms.length d] 24)
    have gb0 := blk_new' (w.alloc (.cells #[.string t.name, .string t.layer, .int .i64 t.lo, .int .i64 t.hi, .slice A t.arms.length c] 24)) (.cells #[.string u.name, .string u.layer, .int .i64 u.lo, .int .i64 u.hi, .slice B u.arms.length d] 24) (w.heap.size + 1) (by simp)
    have Ga0 := Lib.hid ga0
    have Gb0 := Lib.hid gb0
    clear ga0 gb0
    refine (law_lives _).mono ?_
    rintro _ w1 ⟨rfl, hx1⟩
    have ga := hx1.blk Ga0.out
    have gb := hx1.blk Gb0.out
    have a0 := blk_cell ga 0 rfl; have a1 := blk_cell ga 1 rfl; have a2 := blk_cell ga 2 rfl; have a3 := blk_cell ga 3 rfl; have a4 := blk_cell ga 4 rfl; have b0 := blk_cell gb 0 rfl; have b1 := blk_cell gb 1 rfl; have b2 := blk_cell gb 2 rfl; have b3 := blk_cell gb 3 rfl; have b4 := blk_cell gb 4 rfl
    have Ga := Lib.hid ga
    have Gb := Lib.hid gb
    have Hx1 := Lib.hid (Keeps.trans (((Keeps.refl (fun _ => True) w).alloc _).alloc _) hx1)
    clear hx1 ga gb Ga0 Gb0
    go_wp2_with fail
    refine (law_few (some ⟨w1.heap.size, 0, none⟩) 2 2 [t, u] (fun _ => True) _ (two_tr t u (blk_new w1 _) trivial hc ((Hs.out.ext Hx1.out).alloc _) hd ((Hs2.out.ext Hx1.out).alloc _)) (by decide) Hwfs.out).mono ?_
    rw [hf]
    rintro _ w2 ⟨rfl, hx2⟩
    have hx12 := Keeps.trans ((Keeps.refl (fun _ => True) w1).alloc _) hx2
    clear a0 a1 a2 a3 a4 b0 b1 b2 b3 b4
    have ga := Ext.blk hx12 Ga.out
    have gb := Ext.blk hx12 Gb.out
    have a0 := blk_cell ga 0 rfl; have a1 := blk_cell ga 1 rfl; have a2 := blk_cell ga 2 rfl; have a3 := blk_cell ga 3 rfl; have a4 := blk_cell ga 4 rfl; have b0 := blk_cell gb 0 rfl; have b1 := blk_cell gb 1 rfl; have b2 := blk_cell gb 2 rfl; have b3 := blk_cell gb 3 rfl; have b4 := blk_cell gb 4 rfl
    have Ga2 := Lib.hid ga
    have Gb2 := Lib.hid gb
    have Hx2 := Lib.hid (Hx1.out.trans hx12)
    clear hx2 hx12 ga gb
    go_wp2_with fail
    go_ret
    exact ⟨rfl, Hx2.out⟩
  cases hm : mayT t
  · skip
    go_enter Tryd.func10, Tryd.ntmps10
    go_wp2_with fail
    have ga0 := blk_old (blk_new w (.cells #[.string t.name, .string t.layer, .int .i64 t.lo, .int .i64 t.hi, .slice A t.arms.length c] 24)) (.cells #[.string u.name, .string u.layer, .int .i64 u.lo, .int .i64 u.hi, .slice B u.arms.length d] 24)
    have gb0 := blk_new' (w.alloc (.cells #[.string t.name, .string t.layer, .int .i64 t.lo, .int .i64 t.hi, .slice A t.arms.length c] 24)) (.cells #[.string u.name, .string u.layer, .int .i64 u.lo, .int .i64 u.hi, .slice B u.arms.length d] 24) (w.heap.size + 1) (by simp)
    have Ga0 := Lib.hid ga0
    have Gb0 := Lib.hid gb0
    clear ga0 gb0
    refine (law_lives _).mono ?_
    rintro _ w1 ⟨rfl, hx1⟩
    have ga := hx1.blk Ga0.out
    have gb := hx1.blk Gb0.out
    have a0 := blk_cell ga 0 rfl; have a1 := blk_cell ga 1 rfl; have a2 := blk_cell ga 2 rfl; have a3 := blk_cell ga 3 rfl; have a4 := blk_cell ga 4 rfl; have b0 := blk_cell gb 0 rfl; have b1 := blk_cell gb 1 rfl; have b2 := blk_cell gb 2 rfl; have b3 := blk_cell gb 3 rfl; have b4 := blk_cell gb 4 rfl
    have Ga := Lib.hid ga
    have Gb := Lib.hid gb
    have Hx1 := Lib.hid (Keeps.trans (((Keeps.refl (fun _ => True) w).alloc _).alloc _) hx1)
    clear hx1 ga gb Ga0 Gb0
    go_wp2_with fail
    refine (law_few (some ⟨w1.heap.size, 0, none⟩) 2 2 [t, u] (fun _ => True) _ (two_tr t u (blk_new w1 _) trivial hc ((Hs.out.ext Hx1.out).alloc _) hd ((Hs2.out.ext Hx1.out).alloc _)) (by decide) Hwfs.out).mono ?_
    rw [hf]
    rintro _ w2 ⟨rfl, hx2⟩
    have hx12 := Keeps.trans ((Keeps.refl (fun _ => True) w1).alloc _) hx2
    clear a0 a1 a2 a3 a4 b0 b1 b2 b3 b4
    have ga := Ext.blk hx12 Ga.out
    have gb := Ext.blk hx12 Gb.out
    have a0 := blk_cell ga 0 rfl; have a1 := blk_cell ga 1 rfl; have a2 := blk_cell ga 2 rfl; have a3 := blk_cell ga 3 rfl; have a4 := blk_cell ga 4 rfl; have b0 := blk_cell gb 0 rfl; have b1 := blk_cell gb 1 rfl; have b2 := blk_cell gb 2 rfl; have b3 := blk_cell gb 3 rfl; have b4 := blk_cell gb 4 rfl
    have Ga2 := Lib.hid ga
    have Gb2 := Lib.hid gb
    have Hx2 := Lib.hid (Hx1.out.trans hx12)
    clear hx2 hx12 ga gb
    go_wp2_with fail
    refine (law_to2 _ _ _ _ _ _ _ _).mono ?_
    rintro _ w3 ⟨rfl, hx3⟩
    clear a0 a1 a2 a3 a4 b0 b1 b2 b3 b4
    have ga := hx3.blk Ga2.out
    have gb := hx3.blk Gb2.out
    have a0 := blk_cell ga 0 rfl; have a1 := blk_cell ga 1 rfl; have a2 := blk_cell ga 2 rfl; have a3 := blk_cell ga 3 rfl; have a4 := blk_cell ga 4 rfl; have b0 := blk_cell gb 0 rfl; have b1 := blk_cell gb 1 rfl; have b2 := blk_cell gb 2 rfl; have b3 := blk_cell gb 3 rfl; have b4 := blk_cell gb 4 rfl
    have Ga3 := Lib.hid ga
    have Gb3 := Lib.hid gb
    have Hx3 := Lib.hid (Hx2.out.trans hx3)
    clear hx3 ga gb
    go_wp2_with fail
    refine (tr_May t A c (fun _ => True) _ (Hs.out.ext Hx3.out) hc Hwf.out).mono ?_
    rw [hm]
    rintro _ w4 ⟨rfl, hx4⟩
    clear a0 a1 a2 a3 a4 b0 b1 b2 b3 b4
    have ga := hx4.blk Ga3.out
    have gb := hx4.blk Gb3.out
    have a0 := blk_cell ga 0 rfl; have a1 := blk_cell ga 1 rfl; have a2 := blk_cell ga 2 rfl; have a3 := blk_cell ga 3 rfl; have a4 := blk_cell ga 4 rfl; have b0 := blk_cell gb 0 rfl; have b1 := blk_cell gb 1 rfl; have b2 := blk_cell gb 2 rfl; have b3 := blk_cell gb 3 rfl; have b4 := blk_cell gb 4 rfl
    have Ga4 := Lib.hid ga
    have Gb4 := Lib.hid gb
    have Hx4 := Lib.hid (Hx3.out.trans hx4)
    clear hx4 ga gb
    go_wp2_with fail
    go_ret
    exact ⟨rfl, Hx4.out⟩
  cases hm2 : mayT u
  · skip
    go_enter Tryd.func10, Tryd.ntmps10
    go_wp2_with fail
    have ga0 := blk_old (blk_new w (.cells #[.string t.name, .string t.layer, .int .i64 t.lo, .int .i64 t.hi, .slice A t.arms.length c] 24)) (.cells #[.string u.name, .string u.layer, .int .i64 u.lo, .int .i64 u.hi, .slice B u.arms.length d] 24)
    have gb0 := blk_new' (w.alloc (.cells #[.string t.name, .string t.layer, .int .i64 t.lo, .int .i64 t.hi, .slice A t.arms.length c] 24)) (.cells #[.string u.name, .string u.layer, .int .i64 u.lo, .int .i64 u.hi, .slice B u.arms.length d] 24) (w.heap.size + 1) (by simp)
    have Ga0 := Lib.hid ga0
    have Gb0 := Lib.hid gb0
    clear ga0 gb0
    refine (law_lives _).mono ?_
    rintro _ w1 ⟨rfl, hx1⟩
    have ga := hx1.blk Ga0.out
    have gb := hx1.blk Gb0.out
    have a0 := blk_cell ga 0 rfl; have a1 := blk_cell ga 1 rfl; have a2 := blk_cell ga 2 rfl; have a3 := blk_cell ga 3 rfl; have a4 := blk_cell ga 4 rfl; have b0 := blk_cell gb 0 rfl; have b1 := blk_cell gb 1 rfl; have b2 := blk_cell gb 2 rfl; have b3 := blk_cell gb 3 rfl; have b4 := blk_cell gb 4 rfl
    have Ga := Lib.hid ga
    have Gb := Lib.hid gb
    have Hx1 := Lib.hid (Keeps.trans (((Keeps.refl (fun _ => True) w).alloc _).alloc _) hx1)
    clear hx1 ga gb Ga0 Gb0
    go_wp2_with fail
    refine (law_few (some ⟨w1.heap.size, 0, none⟩) 2 2 [t, u] (fun _ => True) _ (two_tr t u (blk_new w1 _) trivial hc ((Hs.out.ext Hx1.out).alloc _) hd ((Hs2.out.ext Hx1.out).alloc _)) (by decide) Hwfs.out).mono ?_
    rw [hf]
    rintro _ w2 ⟨rfl, hx2⟩
    have hx12 := Keeps.trans ((Keeps.refl (fun _ => True) w1).alloc _) hx2
    clear a0 a1 a2 a3 a4 b0 b1 b2 b3 b4
    have ga := Ext.blk hx12 Ga.out
    have gb := Ext.blk hx12 Gb.out
    have a0 := blk_cell ga 0 rfl; have a1 := blk_cell ga 1 rfl; have a2 := blk_cell ga 2 rfl; have a3 := blk_cell ga 3 rfl; have a4 := blk_cell ga 4 rfl; have b0 := blk_cell gb 0 rfl; have b1 := blk_cell gb 1 rfl; have b2 := blk_cell gb 2 rfl; have b3 := blk_cell gb 3 rfl; have b4 := blk_cell gb 4 rfl
    have Ga2 := Lib.hid ga
    have Gb2 := Lib.hid gb
    have Hx2 := Lib.hid (Hx1.out.trans hx12)
    clear hx2 hx12 ga gb
    go_wp2_with fail
    refine (law_to2 _ _ _ _ _ _ _ _).mono ?_
    rintro _ w3 ⟨rfl, hx3⟩
    clear a0 a1 a2 a3 a4 b0 b1 b2 b3 b4
    have ga := hx3.blk Ga2.out
    have gb := hx3.blk Gb2.out
    have a0 := blk_cell ga 0 rfl; have a1 := blk_cell ga 1 rfl; have a2 := blk_cell ga 2 rfl; have a3 := blk_cell ga 3 rfl; have a4 := blk_cell ga 4 rfl; have b0 := blk_cell gb 0 rfl; have b1 := blk_cell gb 1 rfl; have b2 := blk_cell gb 2 rfl; have b3 := blk_cell gb 3 rfl; have b4 := blk_cell gb 4 rfl
    have Ga3 := Lib.hid ga
    have Gb3 := Lib.hid gb
    have Hx3 := Lib.hid (Hx2.out.trans hx3)
    clear hx3 ga gb
    go_wp2_with fail
    refine (tr_May t A c (fun _ => True) _ (Hs.out.ext Hx3.out) hc Hwf.out).mono ?_
    rw [hm]
    rintro _ w4 ⟨rfl, hx4⟩
    clear a0 a1 a2 a3 a4 b0 b1 b2 b3 b4
    have ga := hx4.blk Ga3.out
    have gb := hx4.blk Gb3.out
    have a0 := blk_cell ga 0 rfl; have a1 := blk_cell ga 1 rfl; have a2 := blk_cell ga 2 rfl; have a3 := blk_cell ga 3 rfl; have a4 := blk_cell ga 4 rfl; have b0 := blk_cell gb 0 rfl; have b1 := blk_cell gb 1 rfl; have b2 := blk_cell gb 2 rfl; have b3 := blk_cell gb 3 rfl; have b4 := blk_cell gb 4 rfl
    have Ga4 := Lib.hid ga
    have Gb4 := Lib.hid gb
    have Hx4 := Lib.hid (Hx3.out.trans hx4)
    clear hx4 ga gb
    go_wp2_with fail
    refine (law_to2 _ _ _ _ _ _ _ _).mono ?_
    rintro _ w5 ⟨rfl, hx5⟩
    clear a0 a1 a2 a3 a4 b0 b1 b2 b3 b4
    have ga := hx5.blk Ga4.out
    have gb := hx5.blk Gb4.out
    have a0 := blk_cell ga 0 rfl; have a1 := blk_cell ga 1 rfl; have a2 := blk_cell ga 2 rfl; have a3 := blk_cell ga 3 rfl; have a4 := blk_cell ga 4 rfl; have b0 := blk_cell gb 0 rfl; have b1 := blk_cell gb 1 rfl; have b2 := blk_cell gb 2 rfl; have b3 := blk_cell gb 3 rfl; have b4 := blk_cell gb 4 rfl
    have Ga5 := Lib.hid ga
    have Gb5 := Lib.hid gb
    have Hx5 := Lib.hid (Hx4.out.trans hx5)
    clear hx5 ga gb
    go_wp2_with fail
    refine (tr_May u B d (fun _ => True) _ (Hs2.out.ext Hx5.out) hd Hwf2.out).mono ?_
    rw [hm2]
    rintro _ w6 ⟨rfl, hx6⟩
    clear a0 a1 a2 a3 a4 b0 b1 b2 b3 b4
    have ga := hx6.blk Ga5.out
    have gb := hx6.blk Gb5.out
    have a0 := blk_cell ga 0 rfl; have a1 := blk_cell ga 1 rfl; have a2 := blk_cell ga 2 rfl; have a3 := blk_cell ga 3 rfl; have a4 := blk_cell ga 4 rfl; have b0 := blk_cell gb 0 rfl; have b1 := blk_cell gb 1 rfl; have b2 := blk_cell gb 2 rfl; have b3 := blk_cell gb 3 rfl; have b4 := blk_cell gb 4 rfl
    have Ga6 := Lib.hid ga
    have Gb6 := Lib.hid gb
    have Hx6 := Lib.hid (Hx5.out.trans hx6)
    clear hx6 ga gb
    go_wp2_with fail
    go_ret
    exact ⟨rfl, Hx6.out⟩
  cases hnm : (t.name == u.name) <;> have hnm' := hnm <;> rw [beq_toListBytes] at hnm'
  rotate_left
  · skip
    go_enter Tryd.func10, Tryd.ntmps10
    go_wp2_with fail
    have ga0 := blk_old (blk_new w (.cells #[.string t.name, .string t.layer, .int .i64 t.lo, .int .i64 t.hi, .slice A t.arms.length c] 24)) (.cells #[.string u.name, .string u.layer, .int .i64 u.lo, .int .i64 u.hi, .slice B u.arms.length d] 24)
    have gb0 := blk_new' (w.alloc (.cells #[.string t.name, .string t.layer, .int .i64 t.lo, .int .i64 t.hi, .slice A t.arms.length c] 24)) (.cells #[.string u.name, .string u.layer, .int .i64 u.lo, .int .i64 u.hi, .slice B u.arms.length d] 24) (w.heap.size + 1) (by simp)
    have Ga0 := Lib.hid ga0
    have Gb0 := Lib.hid gb0
    clear ga0 gb0
    refine (law_lives _).mono ?_
    rintro _ w1 ⟨rfl, hx1⟩
    have ga := hx1.blk Ga0.out
    have gb := hx1.blk Gb0.out
    have a0 := blk_cell ga 0 rfl; have a1 := blk_cell ga 1 rfl; have a2 := blk_cell ga 2 rfl; have a3 := blk_cell ga 3 rfl; have a4 := blk_cell ga 4 rfl; have b0 := blk_cell gb 0 rfl; have b1 := blk_cell gb 1 rfl; have b2 := blk_cell gb 2 rfl; have b3 := blk_cell gb 3 rfl; have b4 := blk_cell gb 4 rfl
    have Ga := Lib.hid ga
    have Gb := Lib.hid gb
    have Hx1 := Lib.hid (Keeps.trans (((Keeps.refl (fun _ => True) w).alloc _).alloc _) hx1)
    clear hx1 ga gb Ga0 Gb0
    go_wp2_with fail
    refine (law_few (some ⟨w1.heap.size, 0, none⟩) 2 2 [t, u] (fun _ => True) _ (two_tr t u (blk_new w1 _) trivial hc ((Hs.out.ext Hx1.out).alloc _) hd ((Hs2.out.ext Hx1.out).alloc _)) (by decide) Hwfs.out).mono ?_
    rw [hf]
    rintro _ w2 ⟨rfl, hx2⟩
    have hx12 := Keeps.trans ((Keeps.refl (fun _ => True) w1).alloc _) hx2
    clear a0 a1 a2 a3 a4 b0 b1 b2 b3 b4
    have ga := Ext.blk hx12 Ga.out
    have gb := Ext.blk hx12 Gb.out
    have a0 := blk_cell ga 0 rfl; have a1 := blk_cell ga 1 rfl; have a2 := blk_cell ga 2 rfl; have a3 := blk_cell ga 3 rfl; have a4 := blk_cell ga 4 rfl; have b0 := blk_cell gb 0 rfl; have b1 := blk_cell gb 1 rfl; have b2 := blk_cell gb 2 rfl; have b3 := blk_cell gb 3 rfl; have b4 := blk_cell gb 4 rfl
    have Ga2 := Lib.hid ga
    have Gb2 := Lib.hid gb
    have Hx2 := Lib.hid (Hx1.out.trans hx12)
    clear hx2 hx12 ga gb
    go_wp2_with fail
    refine (law_to2 _ _ _ _ _ _ _ _).mono ?_
    rintro _ w3 ⟨rfl, hx3⟩
    clear a0 a1 a2 a3 a4 b0 b1 b2 b3 b4
    have ga := hx3.blk Ga2.out
    have gb := hx3.blk Gb2.out
    have a0 := blk_cell ga 0 rfl; have a1 := blk_cell ga 1 rfl; have a2 := blk_cell ga 2 rfl; have a3 := blk_cell ga 3 rfl; have a4 := blk_cell ga 4 rfl; have b0 := blk_cell gb 0 rfl; have b1 := blk_cell gb 1 rfl; have b2 := blk_cell gb 2 rfl; have b3 := blk_cell gb 3 rfl; have b4 := blk_cell gb 4 rfl
    have Ga3 := Lib.hid ga
    have Gb3 := Lib.hid gb
    have Hx3 := Lib.hid (Hx2.out.trans hx3)
    clear hx3 ga gb
    go_wp2_with fail
    refine (tr_May t A c (fun _ => True) _ (Hs.out.ext Hx3.out) hc Hwf.out).mono ?_
    rw [hm]
    rintro _ w4 ⟨rfl, hx4⟩
    clear a0 a1 a2 a3 a4 b0 b1 b2 b3 b4
    have ga := hx4.blk Ga3.out
    have gb := hx4.blk Gb3.out
    have a0 := blk_cell ga 0 rfl; have a1 := blk_cell ga 1 rfl; have a2 := blk_cell ga 2 rfl; have a3 := blk_cell ga 3 rfl; have a4 := blk_cell ga 4 rfl; have b0 := blk_cell gb 0 rfl; have b1 := blk_cell gb 1 rfl; have b2 := blk_cell gb 2 rfl; have b3 := blk_cell gb 3 rfl; have b4 := blk_cell gb 4 rfl
    have Ga4 := Lib.hid ga
    have Gb4 := Lib.hid gb
    have Hx4 := Lib.hid (Hx3.out.trans hx4)
    clear hx4 ga gb
    go_wp2_with fail
    refine (law_to2 _ _ _ _ _ _ _ _).mono ?_
    rintro _ w5 ⟨rfl, hx5⟩
    clear a0 a1 a2 a3 a4 b0 b1 b2 b3 b4
    have ga := hx5.blk Ga4.out
    have gb := hx5.blk Gb4.out
    have a0 := blk_cell ga 0 rfl; have a1 := blk_cell ga 1 rfl; have a2 := blk_cell ga 2 rfl; have a3 := blk_cell ga 3 rfl; have a4 := blk_cell ga 4 rfl; have b0 := blk_cell gb 0 rfl; have b1 := blk_cell gb 1 rfl; have b2 := blk_cell gb 2 rfl; have b3 := blk_cell gb 3 rfl; have b4 := blk_cell gb 4 rfl
    have Ga5 := Lib.hid ga
    have Gb5 := Lib.hid gb
    have Hx5 := Lib.hid (Hx4.out.trans hx5)
    clear hx5 ga gb
    go_wp2_with fail
    refine (tr_May u B d (fun _ => True) _ (Hs2.out.ext Hx5.out) hd Hwf2.out).mono ?_
    rw [hm2]
    rintro _ w6 ⟨rfl, hx6⟩
    clear a0 a1 a2 a3 a4 b0 b1 b2 b3 b4
    have ga := hx6.blk Ga5.out
    have gb := hx6.blk Gb5.out
    have a0 := blk_cell ga 0 rfl; have a1 := blk_cell ga 1 rfl; have a2 := blk_cell ga 2 rfl; have a3 := blk_cell ga 3 rfl; have a4 := blk_cell ga 4 rfl; have b0 := blk_cell gb 0 rfl; have b1 := blk_cell gb 1 rfl; have b2 := blk_cell gb 2 rfl; have b3 := blk_cell gb 3 rfl; have b4 := blk_cell gb 4 rfl
    have Ga6 := Lib.hid ga
    have Gb6 := Lib.hid gb
    have Hx6 := Lib.hid (Hx5.out.trans hx6)
    clear hx6 ga gb
    go_wp2_with fail
    go_ret
    exact ⟨rfl, Hx6.out⟩
  have hall : ([t, u] : List Tr).all mayT = true := by simp [hm, hm2]
  have Hall := Lib.hid hall
  clear hall
  cases hly : (t.layer == u.layer) <;> have hly' := hly <;> rw [beq_toListBytes] at hly'
  · skip
    have HC := Lib.hid (show clashT [t, u] = false by rw [clash_two]; unfold againstT; rw [hnm, hly]; rfl)
    go_enter Tryd.func10, Tryd.ntmps10
    go_wp2_with fail
    have ga0 := blk_old (blk_new w (.cells #[.string t.name, .string t.layer, .int .i64 t.lo, .int .i64 t.hi, .slice A t.arms.length c] 24)) (.cells #[.string u.name, .string u.layer, .int .i64 u.lo, .int .i64 u.hi, .slice B u.arms.length d] 24)
    have gb0 := blk_new' (w.alloc (.cells #[.string t.name, .string t.layer, .int .i64 t.lo, .int .i64 t.hi, .slice A t.arms.length c] 24)) (.cells #[.string u.name, .string u.layer, .int .i64 u.lo, .int .i64 u.hi, .slice B u.arms.length d] 24) (w.heap.size + 1) (by simp)
    have Ga0 := Lib.hid ga0
    have Gb0 := Lib.hid gb0
    clear ga0 gb0
    refine (law_lives _).mono ?_
    rintro _ w1 ⟨rfl, hx1⟩
    have ga := hx1.blk Ga0.out
    have gb := hx1.blk Gb0.out
    have a0 := blk_cell ga 0 rfl; have a1 := blk_cell ga 1 rfl; have a2 := blk_cell ga 2 rfl; have a3 := blk_cell ga 3 rfl; have a4 := blk_cell ga 4 rfl; have b0 := blk_cell gb 0 rfl; have b1 := blk_cell gb 1 rfl; have b2 := blk_cell gb 2 rfl; have b3 := blk_cell gb 3 rfl; have b4 := blk_cell gb 4 rfl
    have Ga := Lib.hid ga
    have Gb := Lib.hid gb
    have Hx1 := Lib.hid (Keeps.trans (((Keeps.refl (fun _ => True) w).alloc _).alloc _) hx1)
    clear hx1 ga gb Ga0 Gb0
    go_wp2_with fail
    refine (law_few (some ⟨w1.heap.size, 0, none⟩) 2 2 [t, u] (fun _ => True) _ (two_tr t u (blk_new w1 _) trivial hc ((Hs.out.ext Hx1.out).alloc _) hd ((Hs2.out.ext Hx1.out).alloc _)) (by decide) Hwfs.out).mono ?_
    rw [hf]
    rintro _ w2 ⟨rfl, hx2⟩
    have hx12 := Keeps.trans ((Keeps.refl (fun _ => True) w1).alloc _) hx2
    clear a0 a1 a2 a3 a4 b0 b1 b2 b3 b4
    have ga := Ext.blk hx12 Ga.out
    have gb := Ext.blk hx12 Gb.out
    have a0 := blk_cell ga 0 rfl; have a1 := blk_cell ga 1 rfl; have a2 := blk_cell ga 2 rfl; have a3 := blk_cell ga 3 rfl; have a4 := blk_cell ga 4 rfl; have b0 := blk_cell gb 0 rfl; have b1 := blk_cell gb 1 rfl; have b2 := blk_cell gb 2 rfl; have b3 := blk_cell gb 3 rfl; have b4 := blk_cell gb 4 rfl
    have Ga2 := Lib.hid ga
    have Gb2 := Lib.hid gb
    have Hx2 := Lib.hid (Hx1.out.trans hx12)
    clear hx2 hx12 ga gb
    go_wp2_with fail
    refine (law_to2 _ _ _ _ _ _ _ _).mono ?_
    rintro _ w3 ⟨rfl, hx3⟩
    clear a0 a1 a2 a3 a4 b0 b1 b2 b3 b4
    have ga := hx3.blk Ga2.out
    have gb := hx3.blk Gb2.out
    have a0 := blk_cell ga 0 rfl; have a1 := blk_cell ga 1 rfl; have a2 := blk_cell ga 2 rfl; have a3 := blk_cell ga 3 rfl; have a4 := blk_cell ga 4 rfl; have b0 := blk_cell gb 0 rfl; have b1 := blk_cell gb 1 rfl; have b2 := blk_cell gb 2 rfl; have b3 := blk_cell gb 3 rfl; have b4 := blk_cell gb 4 rfl
    have Ga3 := Lib.hid ga
    have Gb3 := Lib.hid gb
    have Hx3 := Lib.hid (Hx2.out.trans hx3)
    clear hx3 ga gb
    go_wp2_with fail
    refine (tr_May t A c (fun _ => True) _ (Hs.out.ext Hx3.out) hc Hwf.out).mono ?_
    rw [hm]
    rintro _ w4 ⟨rfl, hx4⟩
    clear a0 a1 a2 a3 a4 b0 b1 b2 b3 b4
    have ga := hx4.blk Ga3.out
    have gb := hx4.blk Gb3.out
    have a0 := blk_cell ga 0 rfl; have a1 := blk_cell ga 1 rfl; have a2 := blk_cell ga 2 rfl; have a3 := blk_cell ga 3 rfl; have a4 := blk_cell ga 4 rfl; have b0 := blk_cell gb 0 rfl; have b1 := blk_cell gb 1 rfl; have b2 := blk_cell gb 2 rfl; have b3 := blk_cell gb 3 rfl; have b4 := blk_cell gb 4 rfl
    have Ga4 := Lib.hid ga
    have Gb4 := Lib.hid gb
    have Hx4 := Lib.hid (Hx3.out.trans hx4)
    clear hx4 ga gb
    go_wp2_with fail
    refine (law_to2 _ _ _ _ _ _ _ _).mono ?_
    rintro _ w5 ⟨rfl, hx5⟩
    clear a0 a1 a2 a3 a4 b0 b1 b2 b3 b4
    have ga := hx5.blk Ga4.out
    have gb := hx5.blk Gb4.out
    have a0 := blk_cell ga 0 rfl; have a1 := blk_cell ga 1 rfl; have a2 := blk_cell ga 2 rfl; have a3 := blk_cell ga 3 rfl; have a4 := blk_cell ga 4 rfl; have b0 := blk_cell gb 0 rfl; have b1 := blk_cell gb 1 rfl; have b2 := blk_cell gb 2 rfl; have b3 := blk_cell gb 3 rfl; have b4 := blk_cell gb 4 rfl
    have Ga5 := Lib.hid ga
    have Gb5 := Lib.hid gb
    have Hx5 := Lib.hid (Hx4.out.trans hx5)
    clear hx5 ga gb
    go_wp2_with fail
    refine (tr_May u B d (fun _ => True) _ (Hs2.out.ext Hx5.out) hd Hwf2.out).mono ?_
    rw [hm2]
    rintro _ w6 ⟨rfl, hx6⟩
    clear a0 a1 a2 a3 a4 b0 b1 b2 b3 b4
    have ga := hx6.blk Ga5.out
    have gb := hx6.blk Gb5.out
    have a0 := blk_cell ga 0 rfl; have a1 := blk_cell ga 1 rfl; have a2 := blk_cell ga 2 rfl; have a3 := blk_cell ga 3 rfl; have a4 := blk_cell ga 4 rfl; have b0 := blk_cell gb 0 rfl; have b1 := blk_cell gb 1 rfl; have b2 := blk_cell gb 2 rfl; have b3 := blk_cell gb 3 rfl; have b4 := blk_cell gb 4 rfl
    have Ga6 := Lib.hid ga
    have Gb6 := Lib.hid gb
    have Hx6 := Lib.hid (Hx5.out.trans hx6)
    clear hx6 ga gb
    go_wp2_with fail
    refine (law_book (some ⟨w6.heap.size, 0, none⟩) 2 2 [t, u] (fun k => k < w6.heap.size + 1) _ ((two_tr (ok := fun _ => True) t u (blk_new w6 _) trivial hc ((Hs.out.ext Hx6.out).alloc _) hd ((Hs2.out.ext Hx6.out).alloc _)).mono (fun k hk _ => by simpa using hk)) (by decide) Hwfs.out (fun k hk => by simpa using hk)).mono ?_
    rintro e w7 ⟨hx7, h7⟩
    rw [if_pos Hall.out] at h7
    rw [if_neg (by rw [HC.out]; decide)] at h7
    obtain ⟨bb, mm, lim, vv, rfl, _, hbk⟩ := h7
    have hx67 := Keeps.trans ((Keeps.refl (fun _ => True) w6).alloc _) hx7
    clear a0 a1 a2 a3 a4 b0 b1 b2 b3 b4
    have ga := Ext.blk hx67 Ga6.out
    have gb := Ext.blk hx67 Gb6.out
    have a0 := blk_cell ga 0 rfl; have a1 := blk_cell ga 1 rfl; have a2 := blk_cell ga 2 rfl; have a3 := blk_cell ga 3 rfl; have a4 := blk_cell ga 4 rfl; have b0 := blk_cell gb 0 rfl; have b1 := blk_cell gb 1 rfl; have b2 := blk_cell gb 2 rfl; have b3 := blk_cell gb 3 rfl; have b4 := blk_cell gb 4 rfl
    have Hx7 := Lib.hid (Hx6.out.trans hx67)
    have Hbk := Lib.hid hbk
    clear hx7 hx67 ga gb hbk
    go_wp2_with fail
    go_ret
    exact ⟨rfl, Hx7.out⟩
  cases h1 : decide (t.lo < u.hi)
  · have HL2 := Lib.hid (show (decide (t.lo < u.hi) && decide (u.lo < t.hi)) = false by rw [h1]; rfl)
    have HC := Lib.hid (show clashT [t, u] = false by rw [clash_two]; unfold againstT; rw [hnm, hly, h1]; rfl)
    go_enter Tryd.func10, Tryd.ntmps10
    go_wp2_with fail
    have ga0 := blk_old (blk_new w (.cells #[.string t.name, .string t.layer, .int .i64 t.lo, .int .i64 t.hi, .slice A t.arms.length c] 24)) (.cells #[.string u.name, .string u.layer, .int .i64 u.lo, .int .i64 u.hi, .slice B u.arms.length d] 24)
    have gb0 := blk_new' (w.alloc (.cells #[.string t.name, .string t.layer, .int .i64 t.lo, .int .i64 t.hi, .slice A t.arms.length c] 24)) (.cells #[.string u.name, .string u.layer, .int .i64 u.lo, .int .i64 u.hi, .slice B u.arms.length d] 24) (w.heap.size + 1) (by simp)
    have Ga0 := Lib.hid ga0
    have Gb0 := Lib.hid gb0
    clear ga0 gb0
    refine (law_lives _).mono ?_
    rintro _ w1 ⟨rfl, hx1⟩
    have ga := hx1.blk Ga0.out
    have gb := hx1.blk Gb0.out
    have a0 := blk_cell ga 0 rfl; have a1 := blk_cell ga 1 rfl; have a2 := blk_cell ga 2 rfl; have a3 := blk_cell ga 3 rfl; have a4 := blk_cell ga 4 rfl; have b0 := blk_cell gb 0 rfl; have b1 := blk_cell gb 1 rfl; have b2 := blk_cell gb 2 rfl; have b3 := blk_cell gb 3 rfl; have b4 := blk_cell gb 4 rfl
    have Ga := Lib.hid ga
    have Gb := Lib.hid gb
    have Hx1 := Lib.hid (Keeps.trans (((Keeps.refl (fun _ => True) w).alloc _).alloc _) hx1)
    clear hx1 ga gb Ga0 Gb0
    go_wp2_with fail
    refine (law_few (some ⟨w1.heap.size, 0, none⟩) 2 2 [t, u] (fun _ => True) _ (two_tr t u (blk_new w1 _) trivial hc ((Hs.out.ext Hx1.out).alloc _) hd ((Hs2.out.ext Hx1.out).alloc _)) (by decide) Hwfs.out).mono ?_
    rw [hf]
    rintro _ w2 ⟨rfl, hx2⟩
    have hx12 := Keeps.trans ((Keeps.refl (fun _ => True) w1).alloc _) hx2
    clear a0 a1 a2 a3 a4 b0 b1 b2 b3 b4
    have ga := Ext.blk hx12 Ga.out
    have gb := Ext.blk hx12 Gb.out
    have a0 := blk_cell ga 0 rfl; have a1 := blk_cell ga 1 rfl; have a2 := blk_cell ga 2 rfl; have a3 := blk_cell ga 3 rfl; have a4 := blk_cell ga 4 rfl; have b0 := blk_cell gb 0 rfl; have b1 := blk_cell gb 1 rfl; have b2 := blk_cell gb 2 rfl; have b3 := blk_cell gb 3 rfl; have b4 := blk_cell gb 4 rfl
    have Ga2 := Lib.hid ga
    have Gb2 := Lib.hid gb
    have Hx2 := Lib.hid (Hx1.out.trans hx12)
    clear hx2 hx12 ga gb
    go_wp2_with fail
    refine (law_to2 _ _ _ _ _ _ _ _).mono ?_
    rintro _ w3 ⟨rfl, hx3⟩
    clear a0 a1 a2 a3 a4 b0 b1 b2 b3 b4
    have ga := hx3.blk Ga2.out
    have gb := hx3.blk Gb2.out
    have a0 := blk_cell ga 0 rfl; have a1 := blk_cell ga 1 rfl; have a2 := blk_cell ga 2 rfl; have a3 := blk_cell ga 3 rfl; have a4 := blk_cell ga 4 rfl; have b0 := blk_cell gb 0 rfl; have b1 := blk_cell gb 1 rfl; have b2 := blk_cell gb 2 rfl; have b3 := blk_cell gb 3 rfl; have b4 := blk_cell gb 4 rfl
    have Ga3 := Lib.hid ga
    have Gb3 := Lib.hid gb
    have Hx3 := Lib.hid (Hx2.out.trans hx3)
    clear hx3 ga gb
    go_wp2_with fail
    refine (tr_May t A c (fun _ => True) _ (Hs.out.ext Hx3.out) hc Hwf.out).mono ?_
    rw [hm]
    rintro _ w4 ⟨rfl, hx4⟩
    clear a0 a1 a2 a3 a4 b0 b1 b2 b3 b4
    have ga := hx4.blk Ga3.out
    have gb := hx4.blk Gb3.out
    have a0 := blk_cell ga 0 rfl; have a1 := blk_cell ga 1 rfl; have a2 := blk_cell ga 2 rfl; have a3 := blk_cell ga 3 rfl; have a4 := blk_cell ga 4 rfl; have b0 := blk_cell gb 0 rfl; have b1 := blk_cell gb 1 rfl; have b2 := blk_cell gb 2 rfl; have b3 := blk_cell gb 3 rfl; have b4 := blk_cell gb 4 rfl
    have Ga4 := Lib.hid ga
    have Gb4 := Lib.hid gb
    have Hx4 := Lib.hid (Hx3.out.trans hx4)
    clear hx4 ga gb
    go_wp2_with fail
    refine (law_to2 _ _ _ _ _ _ _ _).mono ?_
    rintro _ w5 ⟨rfl, hx5⟩
    clear a0 a1 a2 a3 a4 b0 b1 b2 b3 b4
    have ga := hx5.blk Ga4.out
    have gb := hx5.blk Gb4.out
    have a0 := blk_cell ga 0 rfl; have a1 := blk_cell ga 1 rfl; have a2 := blk_cell ga 2 rfl; have a3 := blk_cell ga 3 rfl; have a4 := blk_cell ga 4 rfl; have b0 := blk_cell gb 0 rfl; have b1 := blk_cell gb 1 rfl; have b2 := blk_cell gb 2 rfl; have b3 := blk_cell gb 3 rfl; have b4 := blk_cell gb 4 rfl
    have Ga5 := Lib.hid ga
    have Gb5 := Lib.hid gb
    have Hx5 := Lib.hid (Hx4.out.trans hx5)
    clear hx5 ga gb
    go_wp2_with fail
    refine (tr_May u B d (fun _ => True) _ (Hs2.out.ext Hx5.out) hd Hwf2.out).mono ?_
    rw [hm2]
    rintro _ w6 ⟨rfl, hx6⟩
    clear a0 a1 a2 a3 a4 b0 b1 b2 b3 b4
    have ga := hx6.blk Ga5.out
    have gb := hx6.blk Gb5.out
    have a0 := blk_cell ga 0 rfl; have a1 := blk_cell ga 1 rfl; have a2 := blk_cell ga 2 rfl; have a3 := blk_cell ga 3 rfl; have a4 := blk_cell ga 4 rfl; have b0 := blk_cell gb 0 rfl; have b1 := blk_cell gb 1 rfl; have b2 := blk_cell gb 2 rfl; have b3 := blk_cell gb 3 rfl; have b4 := blk_cell gb 4 rfl
    have Ga6 := Lib.hid ga
    have Gb6 := Lib.hid gb
    have Hx6 := Lib.hid (Hx5.out.trans hx6)
    clear hx6 ga gb
    go_wp2_with fail
    refine (law_book (some ⟨w6.heap.size, 0, none⟩) 2 2 [t, u] (fun k => k < w6.heap.size + 1) _ ((two_tr (ok := fun _ => True) t u (blk_new w6 _) trivial hc ((Hs.out.ext Hx6.out).alloc _) hd ((Hs2.out.ext Hx6.out).alloc _)).mono (fun k hk _ => by simpa using hk)) (by decide) Hwfs.out (fun k hk => by simpa using hk)).mono ?_
    rintro e w7 ⟨hx7, h7⟩
    rw [if_pos Hall.out] at h7
    rw [if_neg (by rw [HC.out]; decide)] at h7
    obtain ⟨bb, mm, lim, vv, rfl, _, hbk⟩ := h7
    have hx67 := Keeps.trans ((Keeps.refl (fun _ => True) w6).alloc _) hx7
    clear a0 a1 a2 a3 a4 b0 b1 b2 b3 b4
    have ga := Ext.blk hx67 Ga6.out
    have gb := Ext.blk hx67 Gb6.out
    have a0 := blk_cell ga 0 rfl; have a1 := blk_cell ga 1 rfl; have a2 := blk_cell ga 2 rfl; have a3 := blk_cell ga 3 rfl; have a4 := blk_cell ga 4 rfl; have b0 := blk_cell gb 0 rfl; have b1 := blk_cell gb 1 rfl; have b2 := blk_cell gb 2 rfl; have b3 := blk_cell gb 3 rfl; have b4 := blk_cell gb 4 rfl
    have Hx7 := Lib.hid (Hx6.out.trans hx67)
    have Hbk := Lib.hid hbk
    clear hx7 hx67 ga gb hbk
    go_wp2_with fail
    refine (bk_Arms bb mm lim vv [] [t, u] (fun _ => []) person _ Hbk.out (by simp) Hwfs.out hpm).mono ?_
    rintro _ w8 ⟨rfl, hmp, hx8⟩
    have hle := arms_two (t := t) (u := u) (person := person) hly HL2.out hm hm2
    have hlen := hmp.len Tryd.underlying64
    have Hx8 := Lib.hid (Hx7.out.trans hx8)
    generalize (armsM [t, u] person).length = q at hlen hle
    clear hmp hx8
    go_wp2_with fail
    go_ret
    exact ⟨by simp; omega, Hx8.out⟩
  cases h2 : decide (u.lo < t.hi)
  · have HL2 := Lib.hid (show (decide (t.lo < u.hi) && decide (u.lo < t.hi)) = false by rw [h1, h2]; rfl)
    have HC := Lib.hid (show clashT [t, u] = false by rw [clash_two]; unfold againstT; rw [hnm, hly, h1, h2]; rfl)
    go_enter Tryd.func10, Tryd.ntmps10
    go_wp2_with fail
    have ga0 := blk_old (blk_new w (.cells #[.string t.name, .string t.layer, .int .i64 t.lo, .int .i64 t.hi, .slice A t.arms.length c] 24)) (.cells #[.string u.name, .string u.layer, .int .i64 u.lo, .int .i64 u.hi, .slice B u.arms.length d] 24)
    have gb0 := blk_new' (w.alloc (.cells #[.string t.name, .string t.layer, .int .i64 t.lo, .int .i64 t.hi, .slice A t.arms.length c] 24)) (.cells #[.string u.name, .string u.layer, .int .i64 u.lo, .int .i64 u.hi, .slice B u.arms.length d] 24) (w.heap.size + 1) (by simp)
    have Ga0 := Lib.hid ga0
    have Gb0 := Lib.hid gb0
    clear ga0 gb0
    refine (law_lives _).mono ?_
    rintro _ w1 ⟨rfl, hx1⟩
    have ga := hx1.blk Ga0.out
    have gb := hx1.blk Gb0.out
    have a0 := blk_cell ga 0 rfl; have a1 := blk_cell ga 1 rfl; have a2 := blk_cell ga 2 rfl; have a3 := blk_cell ga 3 rfl; have a4 := blk_cell ga 4 rfl; have b0 := blk_cell gb 0 rfl; have b1 := blk_cell gb 1 rfl; have b2 := blk_cell gb 2 rfl; have b3 := blk_cell gb 3 rfl; have b4 := blk_cell gb 4 rfl
    have Ga := Lib.hid ga
    have Gb := Lib.hid gb
    have Hx1 := Lib.hid (Keeps.trans (((Keeps.refl (fun _ => True) w).alloc _).alloc _) hx1)
    clear hx1 ga gb Ga0 Gb0
    go_wp2_with fail
    refine (law_few (some ⟨w1.heap.size, 0, none⟩) 2 2 [t, u] (fun _ => True) _ (two_tr t u (blk_new w1 _) trivial hc ((Hs.out.ext Hx1.out).alloc _) hd ((Hs2.out.ext Hx1.out).alloc _)) (by decide) Hwfs.out).mono ?_
    rw [hf]
    rintro _ w2 ⟨rfl, hx2⟩
    have hx12 := Keeps.trans ((Keeps.refl (fun _ => True) w1).alloc _) hx2
    clear a0 a1 a2 a3 a4 b0 b1 b2 b3 b4
    have ga := Ext.blk hx12 Ga.out
    have gb := Ext.blk hx12 Gb.out
    have a0 := blk_cell ga 0 rfl; have a1 := blk_cell ga 1 rfl; have a2 := blk_cell ga 2 rfl; have a3 := blk_cell ga 3 rfl; have a4 := blk_cell ga 4 rfl; have b0 := blk_cell gb 0 rfl; have b1 := blk_cell gb 1 rfl; have b2 := blk_cell gb 2 rfl; have b3 := blk_cell gb 3 rfl; have b4 := blk_cell gb 4 rfl
    have Ga2 := Lib.hid ga
    have Gb2 := Lib.hid gb
    have Hx2 := Lib.hid (Hx1.out.trans hx12)
    clear hx2 hx12 ga gb
    go_wp2_with fail
    refine (law_to2 _ _ _ _ _ _ _ _).mono ?_
    rintro _ w3 ⟨rfl, hx3⟩
    clear a0 a1 a2 a3 a4 b0 b1 b2 b3 b4
    have ga := hx3.blk Ga2.out
    have gb := hx3.blk Gb2.out
    have a0 := blk_cell ga 0 rfl; have a1 := blk_cell ga 1 rfl; have a2 := blk_cell ga 2 rfl; have a3 := blk_cell ga 3 rfl; have a4 := blk_cell ga 4 rfl; have b0 := blk_cell gb 0 rfl; have b1 := blk_cell gb 1 rfl; have b2 := blk_cell gb 2 rfl; have b3 := blk_cell gb 3 rfl; have b4 := blk_cell gb 4 rfl
    have Ga3 := Lib.hid ga
    have Gb3 := Lib.hid gb
    have Hx3 := Lib.hid (Hx2.out.trans hx3)
    clear hx3 ga gb
    go_wp2_with fail
    refine (tr_May t A c (fun _ => True) _ (Hs.out.ext Hx3.out) hc Hwf.out).mono ?_
    rw [hm]
    rintro _ w4 ⟨rfl, hx4⟩
    clear a0 a1 a2 a3 a4 b0 b1 b2 b3 b4
    have ga := hx4.blk Ga3.out
    have gb := hx4.blk Gb3.out
    have a0 := blk_cell ga 0 rfl; have a1 := blk_cell ga 1 rfl; have a2 := blk_cell ga 2 rfl; have a3 := blk_cell ga 3 rfl; have a4 := blk_cell ga 4 rfl; have b0 := blk_cell gb 0 rfl; have b1 := blk_cell gb 1 rfl; have b2 := blk_cell gb 2 rfl; have b3 := blk_cell gb 3 rfl; have b4 := blk_cell gb 4 rfl
    have Ga4 := Lib.hid ga
    have Gb4 := Lib.hid gb
    have Hx4 := Lib.hid (Hx3.out.trans hx4)
    clear hx4 ga gb
    go_wp2_with fail
    refine (law_to2 _ _ _ _ _ _ _ _).mono ?_
    rintro _ w5 ⟨rfl, hx5⟩
    clear a0 a1 a2 a3 a4 b0 b1 b2 b3 b4
    have ga := hx5.blk Ga4.out
    have gb := hx5.blk Gb4.out
    have a0 := blk_cell ga 0 rfl; have a1 := blk_cell ga 1 rfl; have a2 := blk_cell ga 2 rfl; have a3 := blk_cell ga 3 rfl; have a4 := blk_cell ga 4 rfl; have b0 := blk_cell gb 0 rfl; have b1 := blk_cell gb 1 rfl; have b2 := blk_cell gb 2 rfl; have b3 := blk_cell gb 3 rfl; have b4 := blk_cell gb 4 rfl
    have Ga5 := Lib.hid ga
    have Gb5 := Lib.hid gb
    have Hx5 := Lib.hid (Hx4.out.trans hx5)
    clear hx5 ga gb
    go_wp2_with fail
    refine (tr_May u B d (fun _ => True) _ (Hs2.out.ext Hx5.out) hd Hwf2.out).mono ?_
    rw [hm2]
    rintro _ w6 ⟨rfl, hx6⟩
    clear a0 a1 a2 a3 a4 b0 b1 b2 b3 b4
    have ga := hx6.blk Ga5.out
    have gb := hx6.blk Gb5.out
    have a0 := blk_cell ga 0 rfl; have a1 := blk_cell ga 1 rfl; have a2 := blk_cell ga 2 rfl; have a3 := blk_cell ga 3 rfl; have a4 := blk_cell ga 4 rfl; have b0 := blk_cell gb 0 rfl; have b1 := blk_cell gb 1 rfl; have b2 := blk_cell gb 2 rfl; have b3 := blk_cell gb 3 rfl; have b4 := blk_cell gb 4 rfl
    have Ga6 := Lib.hid ga
    have Gb6 := Lib.hid gb
    have Hx6 := Lib.hid (Hx5.out.trans hx6)
    clear hx6 ga gb
    go_wp2_with fail
    refine (law_book (some ⟨w6.heap.size, 0, none⟩) 2 2 [t, u] (fun k => k < w6.heap.size + 1) _ ((two_tr (ok := fun _ => True) t u (blk_new w6 _) trivial hc ((Hs.out.ext Hx6.out).alloc _) hd ((Hs2.out.ext Hx6.out).alloc _)).mono (fun k hk _ => by simpa using hk)) (by decide) Hwfs.out (fun k hk => by simpa using hk)).mono ?_
    rintro e w7 ⟨hx7, h7⟩
    rw [if_pos Hall.out] at h7
    rw [if_neg (by rw [HC.out]; decide)] at h7
    obtain ⟨bb, mm, lim, vv, rfl, _, hbk⟩ := h7
    have hx67 := Keeps.trans ((Keeps.refl (fun _ => True) w6).alloc _) hx7
    clear a0 a1 a2 a3 a4 b0 b1 b2 b3 b4
    have ga := Ext.blk hx67 Ga6.out
    have gb := Ext.blk hx67 Gb6.out
    have a0 := blk_cell ga 0 rfl; have a1 := blk_cell ga 1 rfl; have a2 := blk_cell ga 2 rfl; have a3 := blk_cell ga 3 rfl; have a4 := blk_cell ga 4 rfl; have b0 := blk_cell gb 0 rfl; have b1 := blk_cell gb 1 rfl; have b2 := blk_cell gb 2 rfl; have b3 := blk_cell gb 3 rfl; have b4 := blk_cell gb 4 rfl
    have Hx7 := Lib.hid (Hx6.out.trans hx67)
    have Hbk := Lib.hid hbk
    clear hx7 hx67 ga gb hbk
    go_wp2_with fail
    refine (bk_Arms bb mm lim vv [] [t, u] (fun _ => []) person _ Hbk.out (by simp) Hwfs.out hpm).mono ?_
    rintro _ w8 ⟨rfl, hmp, hx8⟩
    have hle := arms_two (t := t) (u := u) (person := person) hly HL2.out hm hm2
    have hlen := hmp.len Tryd.underlying64
    have Hx8 := Lib.hid (Hx7.out.trans hx8)
    generalize (armsM [t, u] person).length = q at hlen hle
    clear hmp hx8
    go_wp2_with fail
    go_ret
    exact ⟨by simp; omega, Hx8.out⟩
  · skip
    have HC := Lib.hid (show clashT [t, u] = true by rw [clash_two]; unfold againstT; rw [hnm, hly, h1, h2]; rfl)
    go_enter Tryd.func10, Tryd.ntmps10
    go_wp2_with fail
    have ga0 := blk_old (blk_new w (.cells #[.string t.name, .string t.layer, .int .i64 t.lo, .int .i64 t.hi, .slice A t.arms.length c] 24)) (.cells #[.string u.name, .string u.layer, .int .i64 u.lo, .int .i64 u.hi, .slice B u.arms.length d] 24)
    have gb0 := blk_new' (w.alloc (.cells #[.string t.name, .string t.layer, .int .i64 t.lo, .int .i64 t.hi, .slice A t.arms.length c] 24)) (.cells #[.string u.name, .string u.layer, .int .i64 u.lo, .int .i64 u.hi, .slice B u.arms.length d] 24) (w.heap.size + 1) (by simp)
    have Ga0 := Lib.hid ga0
    have Gb0 := Lib.hid gb0
    clear ga0 gb0
    refine (law_lives _).mono ?_
    rintro _ w1 ⟨rfl, hx1⟩
    have ga := hx1.blk Ga0.out
    have gb := hx1.blk Gb0.out
    have a0 := blk_cell ga 0 rfl; have a1 := blk_cell ga 1 rfl; have a2 := blk_cell ga 2 rfl; have a3 := blk_cell ga 3 rfl; have a4 := blk_cell ga 4 rfl; have b0 := blk_cell gb 0 rfl; have b1 := blk_cell gb 1 rfl; have b2 := blk_cell gb 2 rfl; have b3 := blk_cell gb 3 rfl; have b4 := blk_cell gb 4 rfl
    have Ga := Lib.hid ga
    have Gb := Lib.hid gb
    have Hx1 := Lib.hid (Keeps.trans (((Keeps.refl (fun _ => True) w).alloc _).alloc _) hx1)
    clear hx1 ga gb Ga0 Gb0
    go_wp2_with fail
    refine (law_few (some ⟨w1.heap.size, 0, none⟩) 2 2 [t, u] (fun _ => True) _ (two_tr t u (blk_new w1 _) trivial hc ((Hs.out.ext Hx1.out).alloc _) hd ((Hs2.out.ext Hx1.out).alloc _)) (by decide) Hwfs.out).mono ?_
    rw [hf]
    rintro _ w2 ⟨rfl, hx2⟩
    have hx12 := Keeps.trans ((Keeps.refl (fun _ => True) w1).alloc _) hx2
    clear a0 a1 a2 a3 a4 b0 b1 b2 b3 b4
    have ga := Ext.blk hx12 Ga.out
    have gb := Ext.blk hx12 Gb.out
    have a0 := blk_cell ga 0 rfl; have a1 := blk_cell ga 1 rfl; have a2 := blk_cell ga 2 rfl; have a3 := blk_cell ga 3 rfl; have a4 := blk_cell ga 4 rfl; have b0 := blk_cell gb 0 rfl; have b1 := blk_cell gb 1 rfl; have b2 := blk_cell gb 2 rfl; have b3 := blk_cell gb 3 rfl; have b4 := blk_cell gb 4 rfl
    have Ga2 := Lib.hid ga
    have Gb2 := Lib.hid gb
    have Hx2 := Lib.hid (Hx1.out.trans hx12)
    clear hx2 hx12 ga gb
    go_wp2_with fail
    refine (law_to2 _ _ _ _ _ _ _ _).mono ?_
    rintro _ w3 ⟨rfl, hx3⟩
    clear a0 a1 a2 a3 a4 b0 b1 b2 b3 b4
    have ga := hx3.blk Ga2.out
    have gb := hx3.blk Gb2.out
    have a0 := blk_cell ga 0 rfl; have a1 := blk_cell ga 1 rfl; have a2 := blk_cell ga 2 rfl; have a3 := blk_cell ga 3 rfl; have a4 := blk_cell ga 4 rfl; have b0 := blk_cell gb 0 rfl; have b1 := blk_cell gb 1 rfl; have b2 := blk_cell gb 2 rfl; have b3 := blk_cell gb 3 rfl; have b4 := blk_cell gb 4 rfl
    have Ga3 := Lib.hid ga
    have Gb3 := Lib.hid gb
    have Hx3 := Lib.hid (Hx2.out.trans hx3)
    clear hx3 ga gb
    go_wp2_with fail
    refine (tr_May t A c (fun _ => True) _ (Hs.out.ext Hx3.out) hc Hwf.out).mono ?_
    rw [hm]
    rintro _ w4 ⟨rfl, hx4⟩
    clear a0 a1 a2 a3 a4 b0 b1 b2 b3 b4
    have ga := hx4.blk Ga3.out
    have gb := hx4.blk Gb3.out
    have a0 := blk_cell ga 0 rfl; have a1 := blk_cell ga 1 rfl; have a2 := blk_cell ga 2 rfl; have a3 := blk_cell ga 3 rfl; have a4 := blk_cell ga 4 rfl; have b0 := blk_cell gb 0 rfl; have b1 := blk_cell gb 1 rfl; have b2 := blk_cell gb 2 rfl; have b3 := blk_cell gb 3 rfl; have b4 := blk_cell gb 4 rfl
    have Ga4 := Lib.hid ga
    have Gb4 := Lib.hid gb
    have Hx4 := Lib.hid (Hx3.out.trans hx4)
    clear hx4 ga gb
    go_wp2_with fail
    refine (law_to2 _ _ _ _ _ _ _ _).mono ?_
    rintro _ w5 ⟨rfl, hx5⟩
    clear a0 a1 a2 a3 a4 b0 b1 b2 b3 b4
    have ga := hx5.blk Ga4.out
    have gb := hx5.blk Gb4.out
    have a0 := blk_cell ga 0 rfl; have a1 := blk_cell ga 1 rfl; have a2 := blk_cell ga 2 rfl; have a3 := blk_cell ga 3 rfl; have a4 := blk_cell ga 4 rfl; have b0 := blk_cell gb 0 rfl; have b1 := blk_cell gb 1 rfl; have b2 := blk_cell gb 2 rfl; have b3 := blk_cell gb 3 rfl; have b4 := blk_cell gb 4 rfl
    have Ga5 := Lib.hid ga
    have Gb5 := Lib.hid gb
    have Hx5 := Lib.hid (Hx4.out.trans hx5)
    clear hx5 ga gb
    go_wp2_with fail
    refine (tr_May u B d (fun _ => True) _ (Hs2.out.ext Hx5.out) hd Hwf2.out).mono ?_
    rw [hm2]
    rintro _ w6 ⟨rfl, hx6⟩
    clear a0 a1 a2 a3 a4 b0 b1 b2 b3 b4
    have ga := hx6.blk Ga5.out
    have gb := hx6.blk Gb5.out
    have a0 := blk_cell ga 0 rfl; have a1 := blk_cell ga 1 rfl; have a2 := blk_cell ga 2 rfl; have a3 := blk_cell ga 3 rfl; have a4 := blk_cell ga 4 rfl; have b0 := blk_cell gb 0 rfl; have b1 := blk_cell gb 1 rfl; have b2 := blk_cell gb 2 rfl; have b3 := blk_cell gb 3 rfl; have b4 := blk_cell gb 4 rfl
    have Ga6 := Lib.hid ga
    have Gb6 := Lib.hid gb
    have Hx6 := Lib.hid (Hx5.out.trans hx6)
    clear hx6 ga gb
    go_wp2_with fail
    refine (law_book (some ⟨w6.heap.size, 0, none⟩) 2 2 [t, u] (fun k => k < w6.heap.size + 1) _ ((two_tr (ok := fun _ => True) t u (blk_new w6 _) trivial hc ((Hs.out.ext Hx6.out).alloc _) hd ((Hs2.out.ext Hx6.out).alloc _)).mono (fun k hk _ => by simpa using hk)) (by decide) Hwfs.out (fun k hk => by simpa using hk)).mono ?_
    rintro e w7 ⟨hx7, h7⟩
    rw [if_pos Hall.out] at h7
    rw [if_pos HC.out] at h7
    subst h7
    have hx67 := Keeps.trans ((Keeps.refl (fun _ => True) w6).alloc _) hx7
    clear a0 a1 a2 a3 a4 b0 b1 b2 b3 b4
    have ga := Ext.blk hx67 Ga6.out
    have gb := Ext.blk hx67 Gb6.out
    have a0 := blk_cell ga 0 rfl; have a1 := blk_cell ga 1 rfl; have a2 := blk_cell ga 2 rfl; have a3 := blk_cell ga 3 rfl; have a4 := blk_cell ga 4 rfl; have b0 := blk_cell gb 0 rfl; have b1 := blk_cell gb 1 rfl; have b2 := blk_cell gb 2 rfl; have b3 := blk_cell gb 3 rfl; have b4 := blk_cell gb 4 rfl
    have Hx7 := Lib.hid (Hx6.out.trans hx67)
    clear hx7 hx67 ga gb
    go_wp2_with fail
    go_ret
    exact ⟨rfl, Hx7.out⟩
end Go.Proofs.YtdkgphambjnbiaaDoor
