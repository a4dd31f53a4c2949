/-
  What is proved here: the law EventUnlike returns true, whatever the two events, and leaves old memory as it was. Conditions: no text is longer than a text can be; the library's variables, and the names of the kinds, hold what their text lays.
-/
import Derived.Test.YtihdeidaekheoaaDoorLawUnl
import Derived.Test.YtihdeidaekheoaaDoorEvEq
import Derived.Test.YtihdeidaekheoaaDoorQuiet
import Derived.Deep.RegionWith
import Derived.Deep.RegionHeld3
import Derived.RegionTactic
import Derived.Deep.DeepCutAuto
import Derived.BigRegion
namespace Go.Proofs.YtihdeidaekheoaaDoor
open Go Go.RowKit Go.Proofs
attribute [local go_sem ↓] Go.wp_at_zero Go.wp_at_succ
attribute [local go_sem high] ev_eql ev_neq
set_option maxRecDepth 100000 in
set_option maxHeartbeats 8000000 in
theorem law_Unl_y (a b : Ev) (w : World) (hwa : EvWf a) (hwb : EvWf b) (hv : Vars w) (hba : bigE a 300 = false) (hbb : bigE b 300 = false) (hma : mayE a = true) (hmb : mayE b = true) :
    Calls Tryd.prog 3 #[.agg #[.string a.src, .int .i64 a.num, .int .i64 a.tick, .int .i64 a.kind, .string a.person, .string a.item, .int .i64 a.value, .string a.text], .agg #[.string b.src, .int .i64 b.num, .int .i64 b.tick, .int .i64 b.kind, .string b.person, .string b.item, .int .i64 b.value, .string b.text]] w fun r w' => r = .returned (.bool true) ∧ Ext w w' := by
  have Hv := Lib.hid hv
  have Hsa := Lib.hid (evSm_of hba (by omega))
  have Hsb := Lib.hid (evSm_of hbb (by omega))
  have Ga := Lib.hid (fun W : World => show Calls Tryd.prog 13 #[.agg #[.string a.src, .int .i64 a.num, .int .i64 a.tick, .int .i64 a.kind, .string a.person, .string a.item, .int .i64 a.value, .string a.text], .int .i64 300] W (fun r w' => r = .returned (.bool false) ∧ Ext W w') by rw [← hba]; exact ref_Big a 300 W hwa)
  have Gb := Lib.hid (fun W : World => show Calls Tryd.prog 13 #[.agg #[.string b.src, .int .i64 b.num, .int .i64 b.tick, .int .i64 b.kind, .string b.person, .string b.item, .int .i64 b.value, .string b.text], .int .i64 300] W (fun r w' => r = .returned (.bool false) ∧ Ext W w') by rw [← hbb]; exact ref_Big b 300 W hwb)
  have Ma := Lib.hid (fun W : World => show Calls Tryd.prog 14 #[.agg #[.string a.src, .int .i64 a.num, .int .i64 a.tick, .int .i64 a.kind, .string a.person, .string a.item, .int .i64 a.value, .string a.text]] W (fun r w' => r = .returned (.bool true) ∧ Ext W w') by rw [← hma]; exact ref_May a W Hsa.out)
  have Mb := Lib.hid (fun W : World => show Calls Tryd.prog 14 #[.agg #[.string b.src, .int .i64 b.num, .int .i64 b.tick, .int .i64 b.kind, .string b.person, .string b.item, .int .i64 b.value, .string b.text]] W (fun r w' => r = .returned (.bool true) ∧ Ext W w') by rw [← hmb]; exact ref_May b W Hsb.out)
  have Ea := Lib.hid (fun (W : World) (hm : Mx W) => ev_Encode_yes a W Hsa.out hm hma)
  have Eb := Lib.hid (fun (W : World) (hm : Mx W) => ev_Encode_yes b W Hsb.out hm hmb)
  clear hv hwa hba hwb hbb
  go_enter Tryd.func3, Tryd.ntmps3
  go_wp2_with (first | (go_at_call 12; refine (law_lives _ (Hv.out.ext (((Keeps.refl _ _).alloc _).alloc _))).mono ?_; rintro _ X ⟨rfl, hx1⟩; obtain ⟨gA, gB, hx0⟩ := two_boxes hx1; have a0 := blk_cell gA 0 rfl; have a1 := blk_cell gA 1 rfl; have a2 := blk_cell gA 2 rfl; have a3 := blk_cell gA 3 rfl; have a4 := blk_cell gA 4 rfl; have a5 := blk_cell gA 5 rfl; have a6 := blk_cell gA 6 rfl; have a7 := blk_cell gA 7 rfl; have b0 := blk_cell gB 0 rfl; have b1 := blk_cell gB 1 rfl; have b2 := blk_cell gB 2 rfl; have b3 := blk_cell gB 3 rfl; have b4 := blk_cell gB 4 rfl; have b5 := blk_cell gB 5 rfl; have b6 := blk_cell gB 6 rfl; have b7 := blk_cell gB 7 rfl; have sa := (Array.getElem?_eq_some_iff.1 gA).1; have sb := (Array.getElem?_eq_some_iff.1 gB).1; have HgA := Lib.hid gA; have HgB := Lib.hid gB; have Hx1 := Lib.hid hx0; clear hx1 hx0 gA gB) | (go_at_call 14; (with_reducible refine (Mb.out _).mono ?_); rintro _ Wd ⟨rfl, hx2⟩; have Hyd := Lib.hid (Hyc.out.trans hx2); have hrd := ext_rule Hyd.out; clear hx2) | (go_at_call 14; (with_reducible refine (Ma.out _).mono ?_); rintro _ Wc ⟨rfl, hx2⟩; have Hyc := Lib.hid (Hyb.out.trans hx2); have hrc := ext_rule Hyc.out; clear hx2) | (go_at_call 13; (with_reducible refine (Gb.out _).mono ?_); rintro _ Wb ⟨rfl, hx2⟩; have Hyb := Lib.hid (Hya.out.trans hx2); have hrb := ext_rule Hyb.out; clear hx2) | (go_at_call 13; (with_reducible refine (Ga.out _).mono ?_); rintro _ Wa ⟨rfl, hx2⟩; have hra := ext_rule hx2; have Hya := Lib.hid hx2; clear hx2) | (go_at_call 15; (with_reducible refine (Ea.out _ (Hv.out.mx.ext (Hx1.out.trans Hyd.out))).mono ?_); rintro _ We ⟨hx2, A1, c1, m1, rfl, hb1⟩; have Hye := Lib.hid (Hyd.out.trans hx2); have hre := ext_rule Hye.out; have Hb1 := Lib.hid hb1; clear hx2 hb1) | (go_at_call 15; (with_reducible refine (Eb.out _ (Hv.out.mx.ext (Hx1.out.trans Hye.out))).mono ?_); rintro _ Wf ⟨hx2, A2, c2, m2, rfl, hb2⟩; have Hyf := Lib.hid (Hye.out.trans hx2); have hrf := ext_rule Hyf.out; have Hb2 := Lib.hid hb2; have Hb1' := Lib.hid (Hb1.out.ext hx2); clear hx2 hb2))
  have KA := Lib.hid (fun (W : World) (h : Ext Wf W) => string_of_bts (P := Tryd.prog) W 28 9 5 A1 c1 Tryd.underlying28 Tryd.underlying5 Tryd.underlying9 (Hb1'.out.ext h))
  have KB := Lib.hid (fun (W : World) (h : Ext Wf W) => string_of_bts (P := Tryd.prog) W 28 9 5 A2 c2 Tryd.underlying28 Tryd.underlying5 Tryd.underlying9 (Hb2.out.ext h))
  have FA := Lib.hid (fun (W : World) (h : Ext Wf W) => ev_Format_yes a W Hsa.out (Hv.out.ext ((Hx1.out.trans Hyf.out).trans h)) hma)
  have FB := Lib.hid (fun (W : World) (h : Ext Wf W) => ev_Format_yes b W Hsb.out (Hv.out.ext ((Hx1.out.trans Hyf.out).trans h)) hmb)
  obtain ⟨S1, hS1⟩ : ∃ S : ByteArray, S = ⟨(encE a).toArray⟩ := ⟨_, rfl⟩
  obtain ⟨S2, hS2⟩ : ∃ S : ByteArray, S = ⟨(encE b).toArray⟩ := ⟨_, rfl⟩
  rw [← hS1] at KA
  rw [← hS2] at KB
  obtain ⟨F1, hF1⟩ : ∃ F, F = fmtE a := ⟨_, rfl⟩
  obtain ⟨F2, hF2⟩ : ∃ F, F = fmtE b := ⟨_, rfl⟩
  rw [← hF1] at FA
  rw [← hF2] at FB
  have gAf := Ext.blk Hyf.out HgA.out
  have gBf := Ext.blk Hyf.out HgB.out
  clear a0 a1 a2 a3 a4 a5 a6 a7 b0 b1 b2 b3 b4 b5 b6 b7 sa sb hra hrb hrc hrd hre hrf
  have a0 := blk_cell gAf 0 rfl
  have a1 := blk_cell gAf 1 rfl
  have a2 := blk_cell gAf 2 rfl
  have a3 := blk_cell gAf 3 rfl
  have a4 := blk_cell gAf 4 rfl
  have a5 := blk_cell gAf 5 rfl
  have a6 := blk_cell gAf 6 rfl
  have a7 := blk_cell gAf 7 rfl
  have b0 := blk_cell gBf 0 rfl
  have b1 := blk_cell gBf 1 rfl
  have b2 := blk_cell gBf 2 rfl
  have b3 := blk_cell gBf 3 rfl
  have b4 := blk_cell gBf 4 rfl
  have b5 := blk_cell gBf 5 rfl
  have b6 := blk_cell gBf 6 rfl
  have b7 := blk_cell gBf 7 rfl
  have sa := (Array.getElem?_eq_some_iff.1 gAf).1
  have sb := (Array.getElem?_eq_some_iff.1 gBf).1
  clear gAf gBf
  have HS1 := Lib.hid hS1
  have HS2 := Lib.hid hS2
  have HF1 := Lib.hid hF1
  have HF2 := Lib.hid hF2
  have hm1 : m1 = (encE a).length := Hb1'.out.1.symm
  have hm2 : m2 = (encE b).length := Hb2.out.1.symm
  have Hm1 := Lib.hid hm1
  have Hm2 := Lib.hid hm2
  have hel := encE_len hmb
  have hm22 : 1 ≤ m2 := by omega
  obtain ⟨hsl2, hmc2⟩ := Hb2.out.sl
  have Hsl2 := Lib.hid hsl2
  have HxW := Lib.hid (Hx1.out.trans Hyf.out)
  clear hS1 hS2 hF1 hF2 hm1 hm2 hel hsl2
  cases hx : eqE a b
  · have hne := eqE_ne hx
    have hSne : S1 ≠ S2 := fun e => hne (enc_inj hma hmb (s := []) (t := []) (by rw [HS1.out, HS2.out] at e; have := congrArg (fun s : ByteArray => s.data.toList) e; simpa using this))
    have hFne : F1 ≠ F2 := fun e => hne (fmt_inj hma hmb (by rw [← HF1.out, ← HF2.out]; exact e))
    have q1 : ¬ S1.toList = S2.toList := fun e => hSne (toL_inj e)
    have q2 : ¬ F1.toList = F2.toList := fun e => hFne (toL_inj e)
    have q3 : (S1.toList == S2.toList) = false := by simpa using q1
    have q4 : (F1.toList == F2.toList) = false := by simpa using q2
    clear q1 q2
    have Hne := Lib.hid hne
    clear hne hSne hFne
    refine wp_region_ext Wf (Keeps.refl _ _) (by kernel_rfl) (by kernel_rfl) ?_
    have hcell := fun (y : XW Wf) => y.cell
    have kA := fun (y : XW Wf) => KA.out y.w y.h
    have kB := fun (y : XW Wf) => KB.out y.w y.h
    repeat (go_big_quiet_step (first
      | (go_at_call 16; with_reducible exact ext_calls (FA.out _ (XW.h _)))
      | (go_at_call 16; with_reducible exact ext_calls (FB.out _ (XW.h _)))))
    refine wpQuiet_nil ?_
    rintro _ ⟨y, rfl⟩
    clear kA kB
    by_cases hgt : m2 < m1
    · have g1 : decide (m2 < m1) = true := by simpa using hgt
      go_wp2_with fail
      refine wp_region_ext Wf y.h (by kernel_rfl) (by kernel_rfl) ?_
      repeat (go_big_quiet_step (fail))
      refine wpQuiet_nil ?_
      rintro _ ⟨z, rfl⟩
      go_wp2_with fail
      go_ret
      exact ⟨rfl, HxW.out.trans z.h⟩
    · have g1 : decide (m2 < m1) = false := by simpa using hgt
      have j0 : (0 : Int) ≤ (m1 : Int) := by omega
      have j1 : (m1 : Int) ≤ (c2 : Int) := by omega
      obtain ⟨b2, o2, rfl, _⟩ := Hsl2.out.2 (by omega)
      have KC := Lib.hid (fun (W : World) (h : Ext Wf W) => text_of_sl (P := Tryd.prog) 28 9 5 0 m1 c2 Tryd.underlying28 Tryd.underlying5 Tryd.underlying9 (Hsl2.out.ext h) (by omega) 0)
      obtain ⟨S3, hS3⟩ : ∃ S : ByteArray, S = bts (((encE b).drop 0).take m1) := ⟨_, rfl⟩
      rw [← hS3] at KC
      have kC := fun (y : XW Wf) => show (convert 28 9 (.slice (some ⟨b2, o2, none⟩) m1 c2)).run Tryd.prog y.w = .ok (.string S3) y.w from KC.out y.w y.h
      have kA := fun (y : XW Wf) => KA.out y.w y.h
      have hS13 : S1 ≠ S3 := fun e => Hne.out (enc_inj hma hmb (s := (encE b).drop m1) (t := []) (by
        rw [HS1.out, hS3] at e
        have e2 := congrArg (fun s : ByteArray => s.data.toList) e
        have e3 : encE a = (encE b).take m1 := by simpa [bts] using e2
        rw [e3, List.take_append_drop, List.append_nil]))
      have q5 : ¬ S1.toList = S3.toList := fun e => hS13 (toL_inj e)
      have q6 : (S1.toList != S3.toList) = true := by simpa using q5
      have q7 : (S1.toList == S3.toList) = false := by simpa using q5
      clear q5 hS13 hS3
      go_wp2_with fail
      refine wp_region_ext Wf y.h (by kernel_rfl) (by kernel_rfl) ?_
      repeat (go_big_quiet_step (fail))
      refine wpQuiet_nil ?_
      rintro _ ⟨z, rfl⟩
      go_wp2_with fail
      go_ret
      exact ⟨rfl, HxW.out.trans z.h⟩
  · have hab : b = a := (eqE_iff.1 hx).symm
    have hSe : S2 = S1 := by rw [HS2.out, HS1.out, hab]
    have hFe : F2 = F1 := by rw [HF2.out, HF1.out, hab]
    subst hSe
    subst hFe
    clear hab
    refine wp_region_ext Wf (Keeps.refl _ _) (by kernel_rfl) (by kernel_rfl) ?_
    have hcell := fun (y : XW Wf) => y.cell
    have kA := fun (y : XW Wf) => KA.out y.w y.h
    have kB := fun (y : XW Wf) => KB.out y.w y.h
    repeat (go_big_quiet_step (first
      | (go_at_call 16; with_reducible exact ext_calls (FA.out _ (XW.h _)))
      | (go_at_call 16; with_reducible exact ext_calls (FB.out _ (XW.h _)))))
    refine wpQuiet_nil ?_
    rintro _ ⟨y, rfl⟩
    clear kA kB
    go_wp2_with fail
    refine wp_region_ext Wf y.h (by kernel_rfl) (by kernel_rfl) ?_
    repeat (go_big_quiet_step (fail))
    refine wpQuiet_nil ?_
    rintro _ ⟨z, rfl⟩
    go_wp2_with fail
    go_ret
    exact ⟨rfl, HxW.out.trans z.h⟩
theorem law_Unlike (a b : Ev) (w : World) (hwa : EvWf a) (hwb : EvWf b) (hv : Vars w) :
    Calls Tryd.prog 3 #[.agg #[.string a.src, .int .i64 a.num, .int .i64 a.tick, .int .i64 a.kind, .string a.person, .string a.item, .int .i64 a.value, .string a.text], .agg #[.string b.src, .int .i64 b.num, .int .i64 b.tick, .int .i64 b.kind, .string b.person, .string b.item, .int .i64 b.value, .string b.text]] w fun r w' => r = .returned (.bool true) ∧ Ext w w' := by
  cases h1 : bigE a 300
  · cases h2 : bigE b 300
    · cases h3 : mayE a
      · exact law_Unl_3 a b w hwa hwb hv h1 h2 h3
      · cases h4 : mayE b
        · exact law_Unl_4 a b w hwa hwb hv h1 h2 h3 h4
        · exact law_Unl_y a b w hwa hwb hv h1 h2 h3 h4
    · exact law_Unl_2 a b w hwa hwb hv h1 h2
  · exact law_Unl_1 a b w hwa hv h1
end Go.Proofs.YtihdeidaekheoaaDoor
