/-
  What is proved here: of two events that may be, which one counts: the program's before, the document's better. Conditions: the library's variables, and the names of the kinds, hold what their text lays.
-/
import Derived.Test.YtmhkgfoimkonoaaDoorExP
import Derived.Test.YtmhkgfoimkonoaaDoorEvRFmt
import Derived.Test.YtmhkgfoimkonoaaDoorEvDig
import Derived.Test.YtmhkgfoimkonoaaDoorEvC
import Derived.Test.YtmhkgfoimkonoaaDoorQuiet
namespace Go.Proofs.YtmhkgfoimkonoaaDoor
open Go Go.RowKit Go.Proofs
attribute [local go_sem ↓] Go.wp_at_zero Go.wp_at_succ
theorem two_boxes {w X : World} {A B : Obj} (h : Ext ((w.alloc A).alloc B) X) : X.heap[w.heap.size]? = some A ∧ X.heap[w.heap.size + 1]? = some B ∧ Ext w X := by
  refine ⟨h.blk (blk_old (blk_new w A) B), h.blk ?_, Keeps.trans ((Keeps.refl _ w).alloc _ |>.alloc _) h⟩
  have := blk_new (w.alloc A) B
  simpa using this
theorem evSm_may {e : Ev} (h : mayE e = true) : EvSm e := by
  have hF := mayF h
  exact ⟨by have := (nameB_size hF.src).2; omega, by have := hF.psize; omega, by have := hF.isize; omega, by have := hF.tsize; omega⟩
set_option maxRecDepth 100000 in
set_option maxHeartbeats 4000000 in
theorem sh_before (a b : Ev) (w : World) (hv : Vars w) (ha : mayE a = true) (hb : mayE b = true) :
    Calls Tryd.prog 62 #[.agg #[.string a.src, .int .i64 a.num, .int .i64 a.tick, .int .i64 a.kind, .string a.person, .string a.item, .int .i64 a.value, .string a.text], .agg #[.string b.src, .int .i64 b.num, .int .i64 b.tick, .int .i64 b.kind, .string b.person, .string b.item, .int .i64 b.value, .string b.text]] w fun r w' => r = .returned (.bool (betterE a b)) ∧ Ext w w' := by
  have Hv := Lib.hid hv
  have Ha := Lib.hid ha
  have Hb := Lib.hid hb
  have CC := Lib.hid (fun (W : World) => ev_Compare a b W)
  obtain ⟨z, hz⟩ : ∃ z, z = cmpE a b := ⟨_, rfl⟩
  rw [← hz] at CC
  clear hv ha hb
  by_cases h0 : z = 0
  · have Hf := Lib.hid (show betterE a b = Op.bytesLess (fmtE a).toList (fmtE b).toList by
      rcases cmpE_cases a b with ⟨h, _⟩ | ⟨_, _, h3, h4, _⟩ | ⟨h, _⟩
      · omega
      · unfold betterE; rw [h3, h4]; rfl
      · omega)
    subst h0
    clear hz
    go_enter Tryd.func62, Tryd.ntmps62
    go_wp2_with fail
    refine (CC.out _).mono ?_
    rintro _ X ⟨rfl, hxX⟩
    (obtain ⟨ga, gb, hwX⟩ := two_boxes hxX; have sa := (Array.getElem?_eq_some_iff.1 ga).1; have sb := (Array.getElem?_eq_some_iff.1 gb).1; have a0 := blk_cell ga 0 rfl; have a1 := blk_cell ga 1 rfl; have a2 := blk_cell ga 2 rfl; have a3 := blk_cell ga 3 rfl; have a4 := blk_cell ga 4 rfl; have a5 := blk_cell ga 5 rfl; have a6 := blk_cell ga 6 rfl; have a7 := blk_cell ga 7 rfl; have b0 := blk_cell gb 0 rfl; have b1 := blk_cell gb 1 rfl; have b2 := blk_cell gb 2 rfl; have b3 := blk_cell gb 3 rfl; have b4 := blk_cell gb 4 rfl; have b5 := blk_cell gb 5 rfl; have b6 := blk_cell gb 6 rfl; have b7 := blk_cell gb 7 rfl; have HwX := Lib.hid hwX; clear ga gb hwX hxX)
    have FA := Lib.hid (fun (W : World) (h : Ext X W) => ev_Format_yes a W (evSm_may Ha.out) (Hv.out.ext (HwX.out.trans h)) Ha.out)
    have FB := Lib.hid (fun (W : World) (h : Ext X W) => ev_Format_yes b W (evSm_may Hb.out) (Hv.out.ext (HwX.out.trans h)) Hb.out)
    obtain ⟨F1, hF1⟩ : ∃ F, F = fmtE a := ⟨_, rfl⟩
    obtain ⟨F2, hF2⟩ : ∃ F, F = fmtE b := ⟨_, rfl⟩
    rw [← hF1] at FA Hf
    rw [← hF2] at FB Hf
    clear hF1 hF2
    go_upto_region 4 with fail
    refine wp_region_ext X (Keeps.refl _ _) (by kernel_rfl) (by kernel_rfl) ?_
    have hcell := fun (y : XW X) => y.cell
    repeat (go_big_quiet_step (first
      | (go_at_call 29; with_reducible exact ext_calls (FA.out _ (XW.h _)))
      | (go_at_call 29; with_reducible exact ext_calls (FB.out _ (XW.h _)))))
    refine wpQuiet_nil ?_
    rintro _ ⟨y, rfl⟩
    clear hcell
    go_wp2_with fail
    go_ret
    exact ⟨by rw [Hf.out]; rfl, HwX.out.trans y.h⟩
  · have Hf := Lib.hid (show betterE a b = decide (z < 0) by
      rcases cmpE_cases a b with ⟨h, _, h3, h4⟩ | ⟨h, _⟩ | ⟨h, _, h3, h4⟩
      · rw [hz, h]; unfold betterE; rw [h3, h4]; rfl
      · omega
      · rw [hz, h]; unfold betterE; rw [h3, h4]; rfl)
    have h9 : (z != 0) = true := by simpa using h0
    clear hz h0
    go_enter Tryd.func62, Tryd.ntmps62
    go_wp2_with fail
    refine (CC.out _).mono ?_
    rintro _ X ⟨rfl, hxX⟩
    obtain ⟨_, _, hwX⟩ := two_boxes hxX
    have HwX := Lib.hid hwX
    clear hwX hxX
    go_wp2_with fail
    go_ret
    exact ⟨by rw [Hf.out]; rfl, HwX.out⟩
set_option maxRecDepth 100000 in
set_option maxHeartbeats 4000000 in
theorem rf_better (a b : Ev) (w : World) (ha : mayE a = true) (hb : mayE b = true) :
    Calls Tryd.prog 68 #[.agg #[.string a.src, .int .i64 a.num, .int .i64 a.tick, .int .i64 a.kind, .string a.person, .string a.item, .int .i64 a.value, .string a.text], .agg #[.string b.src, .int .i64 b.num, .int .i64 b.tick, .int .i64 b.kind, .string b.person, .string b.item, .int .i64 b.value, .string b.text]] w fun r w' => r = .returned (.bool (betterE a b)) ∧ Ext w w' := by
  have CA := Lib.hid (fun (W : World) => ref_Less a b W)
  have CB := Lib.hid (fun (W : World) => ref_Less b a W)
  have FA := Lib.hid (fun (W : World) => ref_Format a W ha)
  have FB := Lib.hid (fun (W : World) => ref_Format b W hb)
  clear ha hb
  have swo := lessE_swo.asym (a := a) (b := b)
  cases h1 : lessE a b
  · cases h2 : lessE b a
    · have Hf := Lib.hid (show betterE a b = Op.bytesLess (fmtE a).toList (fmtE b).toList by unfold betterE; rw [h1, h2]; rfl)
      rw [h1] at CA
      rw [h2] at CB
      obtain ⟨F1, hF1⟩ : ∃ F, F = fmtE a := ⟨_, rfl⟩
      obtain ⟨F2, hF2⟩ : ∃ F, F = fmtE b := ⟨_, rfl⟩
      rw [← hF1] at FA Hf
      rw [← hF2] at FB Hf
      clear hF1 hF2 swo h1 h2
      go_enter Tryd.func68, Tryd.ntmps68
      go_wp2_with fail
      refine (CA.out _).mono ?_
      rintro _ X ⟨rfl, hxX⟩
      have HxX := Lib.hid hxX
      (obtain ⟨ga, gb, hwX⟩ := two_boxes hxX; have sa := (Array.getElem?_eq_some_iff.1 ga).1; have sb := (Array.getElem?_eq_some_iff.1 gb).1; have a0 := blk_cell ga 0 rfl; have a1 := blk_cell ga 1 rfl; have a2 := blk_cell ga 2 rfl; have a3 := blk_cell ga 3 rfl; have a4 := blk_cell ga 4 rfl; have a5 := blk_cell ga 5 rfl; have a6 := blk_cell ga 6 rfl; have a7 := blk_cell ga 7 rfl; have b0 := blk_cell gb 0 rfl; have b1 := blk_cell gb 1 rfl; have b2 := blk_cell gb 2 rfl; have b3 := blk_cell gb 3 rfl; have b4 := blk_cell gb 4 rfl; have b5 := blk_cell gb 5 rfl; have b6 := blk_cell gb 6 rfl; have b7 := blk_cell gb 7 rfl; have HwX := Lib.hid hwX; clear ga gb hwX hxX)
      go_wp2_with fail
      refine (CB.out _).mono ?_
      clear a0 a1 a2 a3 a4 a5 a6 a7 b0 b1 b2 b3 b4 b5 b6 b7 sa sb HwX
      rintro _ Y ⟨rfl, hxY⟩
      have hxX := HxX.out.trans hxY
      clear hxY HxX
      (obtain ⟨ga, gb, hwX⟩ := two_boxes hxX; have sa := (Array.getElem?_eq_some_iff.1 ga).1; have sb := (Array.getElem?_eq_some_iff.1 gb).1; have a0 := blk_cell ga 0 rfl; have a1 := blk_cell ga 1 rfl; have a2 := blk_cell ga 2 rfl; have a3 := blk_cell ga 3 rfl; have a4 := blk_cell ga 4 rfl; have a5 := blk_cell ga 5 rfl; have a6 := blk_cell ga 6 rfl; have a7 := blk_cell ga 7 rfl; have b0 := blk_cell gb 0 rfl; have b1 := blk_cell gb 1 rfl; have b2 := blk_cell gb 2 rfl; have b3 := blk_cell gb 3 rfl; have b4 := blk_cell gb 4 rfl; have b5 := blk_cell gb 5 rfl; have b6 := blk_cell gb 6 rfl; have b7 := blk_cell gb 7 rfl; have HwX := Lib.hid hwX; clear ga gb hwX hxX)
      go_upto_region 3 with fail
      refine wp_region_ext Y (Keeps.refl _ _) (by kernel_rfl) (by kernel_rfl) ?_
      have hcell := fun (y : XW Y) => y.cell
      repeat (go_big_quiet_step (first
        | (go_at_call 49; with_reducible exact ext_calls (FA.out _))
        | (go_at_call 49; with_reducible exact ext_calls (FB.out _))))
      refine wpQuiet_nil ?_
      rintro _ ⟨y, rfl⟩
      clear hcell
      go_wp2_with fail
      go_ret
      exact ⟨by rw [Hf.out]; rfl, HwX.out.trans y.h⟩
    · have Hf := Lib.hid (show betterE a b = false by unfold betterE; rw [h1, h2]; rfl)
      rw [h1] at CA
      rw [h2] at CB
      clear swo h1 h2
      go_enter Tryd.func68, Tryd.ntmps68
      go_wp2_with fail
      refine (CA.out _).mono ?_
      rintro _ X ⟨rfl, hxX⟩
      have HxX := Lib.hid hxX
      (obtain ⟨ga, gb, hwX⟩ := two_boxes hxX; have sa := (Array.getElem?_eq_some_iff.1 ga).1; have sb := (Array.getElem?_eq_some_iff.1 gb).1; have a0 := blk_cell ga 0 rfl; have a1 := blk_cell ga 1 rfl; have a2 := blk_cell ga 2 rfl; have a3 := blk_cell ga 3 rfl; have a4 := blk_cell ga 4 rfl; have a5 := blk_cell ga 5 rfl; have a6 := blk_cell ga 6 rfl; have a7 := blk_cell ga 7 rfl; have b0 := blk_cell gb 0 rfl; have b1 := blk_cell gb 1 rfl; have b2 := blk_cell gb 2 rfl; have b3 := blk_cell gb 3 rfl; have b4 := blk_cell gb 4 rfl; have b5 := blk_cell gb 5 rfl; have b6 := blk_cell gb 6 rfl; have b7 := blk_cell gb 7 rfl; have HwX := Lib.hid hwX; clear ga gb hwX hxX)
      go_wp2_with fail
      refine (CB.out _).mono ?_
      clear a0 a1 a2 a3 a4 a5 a6 a7 b0 b1 b2 b3 b4 b5 b6 b7 sa sb HwX
      rintro _ Y ⟨rfl, hxY⟩
      have hxX := HxX.out.trans hxY
      clear hxY HxX
      (obtain ⟨ga, gb, hwX⟩ := two_boxes hxX; have sa := (Array.getElem?_eq_some_iff.1 ga).1; have sb := (Array.getElem?_eq_some_iff.1 gb).1; have a0 := blk_cell ga 0 rfl; have a1 := blk_cell ga 1 rfl; have a2 := blk_cell ga 2 rfl; have a3 := blk_cell ga 3 rfl; have a4 := blk_cell ga 4 rfl; have a5 := blk_cell ga 5 rfl; have a6 := blk_cell ga 6 rfl; have a7 := blk_cell ga 7 rfl; have b0 := blk_cell gb 0 rfl; have b1 := blk_cell gb 1 rfl; have b2 := blk_cell gb 2 rfl; have b3 := blk_cell gb 3 rfl; have b4 := blk_cell gb 4 rfl; have b5 := blk_cell gb 5 rfl; have b6 := blk_cell gb 6 rfl; have b7 := blk_cell gb 7 rfl; have HwX := Lib.hid hwX; clear ga gb hwX hxX)
      go_wp2_with fail
      refine (CA.out _).mono ?_
      rintro _ Z ⟨rfl, hxZ⟩
      go_wp2_with fail
      go_ret
      exact ⟨by rw [Hf.out]; rfl, HwX.out.trans hxZ⟩
  · have Hf := Lib.hid (show betterE a b = true by unfold betterE; rw [h1]; rfl)
    rw [h1] at CA
    clear swo h1
    go_enter Tryd.func68, Tryd.ntmps68
    go_wp2_with fail
    refine (CA.out _).mono ?_
    rintro _ X ⟨rfl, hxX⟩
    (obtain ⟨ga, gb, hwX⟩ := two_boxes hxX; have sa := (Array.getElem?_eq_some_iff.1 ga).1; have sb := (Array.getElem?_eq_some_iff.1 gb).1; have a0 := blk_cell ga 0 rfl; have a1 := blk_cell ga 1 rfl; have a2 := blk_cell ga 2 rfl; have a3 := blk_cell ga 3 rfl; have a4 := blk_cell ga 4 rfl; have a5 := blk_cell ga 5 rfl; have a6 := blk_cell ga 6 rfl; have a7 := blk_cell ga 7 rfl; have b0 := blk_cell gb 0 rfl; have b1 := blk_cell gb 1 rfl; have b2 := blk_cell gb 2 rfl; have b3 := blk_cell gb 3 rfl; have b4 := blk_cell gb 4 rfl; have b5 := blk_cell gb 5 rfl; have b6 := blk_cell gb 6 rfl; have b7 := blk_cell gb 7 rfl; have HwX := Lib.hid hwX; clear ga gb hwX hxX)
    go_wp2_with fail
    refine (CA.out _).mono ?_
    rintro _ Z ⟨rfl, hxZ⟩
    go_wp2_with fail
    go_ret
    exact ⟨by rw [Hf.out]; rfl, HwX.out.trans hxZ⟩
end Go.Proofs.YtmhkgfoimkonoaaDoor
