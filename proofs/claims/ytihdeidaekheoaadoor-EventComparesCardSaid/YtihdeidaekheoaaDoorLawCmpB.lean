/-
  What is proved here: the law EventCompares returns true, by what the comparisons tell. Conditions: as told there.
-/
import Derived.Test.YtihdeidaekheoaaDoorLawCmp
namespace Go.Proofs.YtihdeidaekheoaaDoor
open Go Go.RowKit Go.Proofs
attribute [local go_sem ↓] Go.wp_at_zero Go.wp_at_succ
set_option maxRecDepth 100000 in
set_option maxHeartbeats 8000000 in
theorem law_Cmp_m4 (a b c : Ev) (w : World) (hwa : EvWf a) (hwb : EvWf b) (hwc : EvWf c) (hv : Vars w) (hba : bigE a 1000 = false) (hbb : bigE b 1000 = false) (hbc : bigE c 1000 = false) (hx : cmpE a b = 0) (hx' : cmpE b a = 0) (hl1 : lessE a b = false) (hl2 : lessE b a = false) (hy : cmpE b c = -1) (hz : cmpE a c = -1) :
    Calls Tryd.prog 7 #[.agg #[.string a.src, .int .i64 a.num, .int .i64 a.tick, .int .i64 a.kind, .string a.person, .string a.item, .int .i64 a.value, .string a.text], .agg #[.string b.src, .int .i64 b.num, .int .i64 b.tick, .int .i64 b.kind, .string b.person, .string b.item, .int .i64 b.value, .string b.text], .agg #[.string c.src, .int .i64 c.num, .int .i64 c.tick, .int .i64 c.kind, .string c.person, .string c.item, .int .i64 c.value, .string c.text]] w fun r w' => r = .returned (.bool true) ∧ Ext w w' := by
  have Hv := Lib.hid hv
  clear hv
  have C1 := Lib.hid (fun W : World => show Calls Tryd.prog 31 #[.agg #[.string a.src, .int .i64 a.num, .int .i64 a.tick, .int .i64 a.kind, .string a.person, .string a.item, .int .i64 a.value, .string a.text], .agg #[.string b.src, .int .i64 b.num, .int .i64 b.tick, .int .i64 b.kind, .string b.person, .string b.item, .int .i64 b.value, .string b.text]] W (fun r w' => r = .returned (.int .i64 (0)) ∧ Ext W w') by rw [← hx]; exact ev_Compare a b W)
  have C2 := Lib.hid (fun W : World => show Calls Tryd.prog 31 #[.agg #[.string b.src, .int .i64 b.num, .int .i64 b.tick, .int .i64 b.kind, .string b.person, .string b.item, .int .i64 b.value, .string b.text], .agg #[.string c.src, .int .i64 c.num, .int .i64 c.tick, .int .i64 c.kind, .string c.person, .string c.item, .int .i64 c.value, .string c.text]] W (fun r w' => r = .returned (.int .i64 (-1)) ∧ Ext W w') by rw [← hy]; exact ev_Compare b c W)
  have C3 := Lib.hid (fun W : World => show Calls Tryd.prog 31 #[.agg #[.string a.src, .int .i64 a.num, .int .i64 a.tick, .int .i64 a.kind, .string a.person, .string a.item, .int .i64 a.value, .string a.text], .agg #[.string c.src, .int .i64 c.num, .int .i64 c.tick, .int .i64 c.kind, .string c.person, .string c.item, .int .i64 c.value, .string c.text]] W (fun r w' => r = .returned (.int .i64 (-1)) ∧ Ext W w') by rw [← hz]; exact ev_Compare a c W)
  have C4 := Lib.hid (fun W : World => show Calls Tryd.prog 31 #[.agg #[.string b.src, .int .i64 b.num, .int .i64 b.tick, .int .i64 b.kind, .string b.person, .string b.item, .int .i64 b.value, .string b.text], .agg #[.string a.src, .int .i64 a.num, .int .i64 a.tick, .int .i64 a.kind, .string a.person, .string a.item, .int .i64 a.value, .string a.text]] W (fun r w' => r = .returned (.int .i64 (0)) ∧ Ext W w') by rw [← hx']; exact ev_Compare b a W)
  have C5 := Lib.hid (fun W : World => show Calls Tryd.prog 31 #[.agg #[.string a.src, .int .i64 a.num, .int .i64 a.tick, .int .i64 a.kind, .string a.person, .string a.item, .int .i64 a.value, .string a.text], .agg #[.string a.src, .int .i64 a.num, .int .i64 a.tick, .int .i64 a.kind, .string a.person, .string a.item, .int .i64 a.value, .string a.text]] W (fun r w' => r = .returned (.int .i64 0) ∧ Ext W w') by rw [← cmpE_self a]; exact ev_Compare a a W)
  have L1 := Lib.hid (fun W : World => show Calls Tryd.prog 30 #[.agg #[.string a.src, .int .i64 a.num, .int .i64 a.tick, .int .i64 a.kind, .string a.person, .string a.item, .int .i64 a.value, .string a.text], .agg #[.string b.src, .int .i64 b.num, .int .i64 b.tick, .int .i64 b.kind, .string b.person, .string b.item, .int .i64 b.value, .string b.text]] W (fun r w' => r = .returned (.bool false) ∧ Ext W w') by rw [← hl1]; exact ref_Less a b W)
  have L2 := Lib.hid (fun W : World => show Calls Tryd.prog 30 #[.agg #[.string b.src, .int .i64 b.num, .int .i64 b.tick, .int .i64 b.kind, .string b.person, .string b.item, .int .i64 b.value, .string b.text], .agg #[.string a.src, .int .i64 a.num, .int .i64 a.tick, .int .i64 a.kind, .string a.person, .string a.item, .int .i64 a.value, .string a.text]] W (fun r w' => r = .returned (.bool false) ∧ Ext W w') by rw [← hl2]; exact ref_Less b a W)
  have Ga := Lib.hid (fun W : World => show Calls Tryd.prog 13 #[.agg #[.string a.src, .int .i64 a.num, .int .i64 a.tick, .int .i64 a.kind, .string a.person, .string a.item, .int .i64 a.value, .string a.text], .int .i64 1000] W (fun r w' => r = .returned (.bool false) ∧ Ext W w') by rw [← hba]; exact ref_Big a 1000 W hwa)
  have Gb := Lib.hid (fun W : World => show Calls Tryd.prog 13 #[.agg #[.string b.src, .int .i64 b.num, .int .i64 b.tick, .int .i64 b.kind, .string b.person, .string b.item, .int .i64 b.value, .string b.text], .int .i64 1000] W (fun r w' => r = .returned (.bool false) ∧ Ext W w') by rw [← hbb]; exact ref_Big b 1000 W hwb)
  have Gc := Lib.hid (fun W : World => show Calls Tryd.prog 13 #[.agg #[.string c.src, .int .i64 c.num, .int .i64 c.tick, .int .i64 c.kind, .string c.person, .string c.item, .int .i64 c.value, .string c.text], .int .i64 1000] W (fun r w' => r = .returned (.bool false) ∧ Ext W w') by rw [← hbc]; exact ref_Big c 1000 W hwc)
  clear hwa hba hwb hbb hwc hbc
  clear hx hx' hl1 hl2 hy hz
  cases hs : (a.src == b.src) <;> have hs' := hs <;> rw [beq_toListBytes] at hs'
  · have SM := Lib.hid (fun W : World => show Calls Tryd.prog 32 #[.agg #[.string a.src, .int .i64 a.num, .int .i64 a.tick, .int .i64 a.kind, .string a.person, .string a.item, .int .i64 a.value, .string a.text], .agg #[.string b.src, .int .i64 b.num, .int .i64 b.tick, .int .i64 b.kind, .string b.person, .string b.item, .int .i64 b.value, .string b.text]] W (fun r w' => r = .returned (.bool false) ∧ Ext W w') by have h9 := ev_Same a b W; rw [show sameE a b = false by unfold sameE; rw [hs]; rfl] at h9; exact h9)
    clear hs
    go_enter Tryd.func7, Tryd.ntmps7
    go_wp2_with (first | (go_at_call 12; refine (law_lives _ (Hv.out.ext ((((Keeps.refl _ _).alloc _).alloc _).alloc _))).mono ?_; rintro _ X ⟨rfl, hx1⟩; obtain ⟨gA, gB, gC, hx0⟩ := three_boxes hx1; have a0 := blk_cell gA 0 rfl; have a1 := blk_cell gA 1 rfl; have a2 := blk_cell gA 2 rfl; have a3 := blk_cell gA 3 rfl; have a4 := blk_cell gA 4 rfl; have a5 := blk_cell gA 5 rfl; have a6 := blk_cell gA 6 rfl; have a7 := blk_cell gA 7 rfl; have sa := (Array.getElem?_eq_some_iff.1 gA).1; have b0 := blk_cell gB 0 rfl; have b1 := blk_cell gB 1 rfl; have b2 := blk_cell gB 2 rfl; have b3 := blk_cell gB 3 rfl; have b4 := blk_cell gB 4 rfl; have b5 := blk_cell gB 5 rfl; have b6 := blk_cell gB 6 rfl; have b7 := blk_cell gB 7 rfl; have sb := (Array.getElem?_eq_some_iff.1 gB).1; have c0 := blk_cell gC 0 rfl; have c1 := blk_cell gC 1 rfl; have c2 := blk_cell gC 2 rfl; have c3 := blk_cell gC 3 rfl; have c4 := blk_cell gC 4 rfl; have c5 := blk_cell gC 5 rfl; have c6 := blk_cell gC 6 rfl; have c7 := blk_cell gC 7 rfl; have sc := (Array.getElem?_eq_some_iff.1 gC).1; have Hx1 := Lib.hid hx0; clear hx1 hx0 gA gB gC) | (go_at_call 13; (with_reducible refine (Ga.out _).mono ?_); rintro _ Wa ⟨rfl, hx2⟩; have hra := ext_rule hx2; have Hya := Lib.hid hx2; clear hx2) | (go_at_call 13; (with_reducible refine (Gb.out _).mono ?_); rintro _ Wb ⟨rfl, hx2⟩; have Hyb := Lib.hid (Hya.out.trans hx2); have hrb := ext_rule Hyb.out; clear hx2) | (go_at_call 13; (with_reducible refine (Gc.out _).mono ?_); rintro _ Wc ⟨rfl, hx2⟩; have Hyc := Lib.hid (Hyb.out.trans hx2); have hrc := ext_rule Hyc.out; clear hx2) | (go_at_call 30; (with_reducible refine (L1.out _).mono ?_); rintro _ Wd ⟨rfl, hx2⟩; have Hyd := Lib.hid (Hyc.out.trans hx2); have hrd := ext_rule Hyd.out; clear hx2) | (go_at_call 30; (with_reducible refine (L2.out _).mono ?_); rintro _ We ⟨rfl, hx2⟩; have Hye := Lib.hid (Hyd.out.trans hx2); clear hx2))
    clear hra hrb hrc hrd
    have hye := Hye.out
    have hOe : Old X We := Old.of_ext hye
    refine wp_region_ext X hye (by kernel_rfl) (by kernel_rfl) ?_
    have hcell := fun (y : XW X) => y.cell
    repeat (go_big_quiet_step (first | (go_at_call 31; with_reducible exact ext_calls (C1.out _)) | (go_at_call 31; with_reducible exact ext_calls (C2.out _)) | (go_at_call 31; with_reducible exact ext_calls (C3.out _))))
    refine wpQuiet_nil ?_
    rintro _ ⟨y1, rfl⟩
    obtain ⟨W5, hy⟩ := y1
    simp only
    clear hye hOe hcell
    go_wp2_with fail
    refine wp_region_ext X hy (by kernel_rfl) (by kernel_rfl) ?_
    have hcell := fun (y : XW X) => y.cell
    repeat (go_big_quiet_step (first | (go_at_call 31; with_reducible exact ext_calls (C4.out _)) | (go_at_call 31; with_reducible exact ext_calls (C5.out _)) | (go_at_call 32; with_reducible exact ext_calls (SM.out _))))
    refine wpQuiet_nil ?_
    rintro _ ⟨y', rfl⟩
    go_wp2_with fail
    go_ret
    exact ⟨rfl, Hx1.out.trans y'.h⟩
  · cases hn : decide (a.num = b.num)
    · have hn' : (a.num == b.num) = false := hn
      have SM := Lib.hid (fun W : World => show Calls Tryd.prog 32 #[.agg #[.string a.src, .int .i64 a.num, .int .i64 a.tick, .int .i64 a.kind, .string a.person, .string a.item, .int .i64 a.value, .string a.text], .agg #[.string b.src, .int .i64 b.num, .int .i64 b.tick, .int .i64 b.kind, .string b.person, .string b.item, .int .i64 b.value, .string b.text]] W (fun r w' => r = .returned (.bool false) ∧ Ext W w') by have h9 := ev_Same a b W; rw [show sameE a b = false by unfold sameE; rw [hs, hn]; rfl] at h9; exact h9)
      clear hs hn
      go_enter Tryd.func7, Tryd.ntmps7
      go_wp2_with (first | (go_at_call 12; refine (law_lives _ (Hv.out.ext ((((Keeps.refl _ _).alloc _).alloc _).alloc _))).mono ?_; rintro _ X ⟨rfl, hx1⟩; obtain ⟨gA, gB, gC, hx0⟩ := three_boxes hx1; have a0 := blk_cell gA 0 rfl; have a1 := blk_cell gA 1 rfl; have a2 := blk_cell gA 2 rfl; have a3 := blk_cell gA 3 rfl; have a4 := blk_cell gA 4 rfl; have a5 := blk_cell gA 5 rfl; have a6 := blk_cell gA 6 rfl; have a7 := blk_cell gA 7 rfl; have sa := (Array.getElem?_eq_some_iff.1 gA).1; have b0 := blk_cell gB 0 rfl; have b1 := blk_cell gB 1 rfl; have b2 := blk_cell gB 2 rfl; have b3 := blk_cell gB 3 rfl; have b4 := blk_cell gB 4 rfl; have b5 := blk_cell gB 5 rfl; have b6 := blk_cell gB 6 rfl; have b7 := blk_cell gB 7 rfl; have sb := (Array.getElem?_eq_some_iff.1 gB).1; have c0 := blk_cell gC 0 rfl; have c1 := blk_cell gC 1 rfl; have c2 := blk_cell gC 2 rfl; have c3 := blk_cell gC 3 rfl; have c4 := blk_cell gC 4 rfl; have c5 := blk_cell gC 5 rfl; have c6 := blk_cell gC 6 rfl; have c7 := blk_cell gC 7 rfl; have sc := (Array.getElem?_eq_some_iff.1 gC).1; have Hx1 := Lib.hid hx0; clear hx1 hx0 gA gB gC) | (go_at_call 13; (with_reducible refine (Ga.out _).mono ?_); rintro _ Wa ⟨rfl, hx2⟩; have hra := ext_rule hx2; have Hya := Lib.hid hx2; clear hx2) | (go_at_call 13; (with_reducible refine (Gb.out _).mono ?_); rintro _ Wb ⟨rfl, hx2⟩; have Hyb := Lib.hid (Hya.out.trans hx2); have hrb := ext_rule Hyb.out; clear hx2) | (go_at_call 13; (with_reducible refine (Gc.out _).mono ?_); rintro _ Wc ⟨rfl, hx2⟩; have Hyc := Lib.hid (Hyb.out.trans hx2); have hrc := ext_rule Hyc.out; clear hx2) | (go_at_call 30; (with_reducible refine (L1.out _).mono ?_); rintro _ Wd ⟨rfl, hx2⟩; have Hyd := Lib.hid (Hyc.out.trans hx2); have hrd := ext_rule Hyd.out; clear hx2) | (go_at_call 30; (with_reducible refine (L2.out _).mono ?_); rintro _ We ⟨rfl, hx2⟩; have Hye := Lib.hid (Hyd.out.trans hx2); clear hx2))
      clear hra hrb hrc hrd
      have hye := Hye.out
      have hOe : Old X We := Old.of_ext hye
      refine wp_region_ext X hye (by kernel_rfl) (by kernel_rfl) ?_
      have hcell := fun (y : XW X) => y.cell
      repeat (go_big_quiet_step (first | (go_at_call 31; with_reducible exact ext_calls (C1.out _)) | (go_at_call 31; with_reducible exact ext_calls (C2.out _)) | (go_at_call 31; with_reducible exact ext_calls (C3.out _))))
      refine wpQuiet_nil ?_
      rintro _ ⟨y1, rfl⟩
      obtain ⟨W5, hy⟩ := y1
      simp only
      clear hye hOe hcell
      go_wp2_with fail
      refine wp_region_ext X hy (by kernel_rfl) (by kernel_rfl) ?_
      have hcell := fun (y : XW X) => y.cell
      repeat (go_big_quiet_step (first | (go_at_call 31; with_reducible exact ext_calls (C4.out _)) | (go_at_call 31; with_reducible exact ext_calls (C5.out _)) | (go_at_call 32; with_reducible exact ext_calls (SM.out _))))
      refine wpQuiet_nil ?_
      rintro _ ⟨y', rfl⟩
      go_wp2_with fail
      go_ret
      exact ⟨rfl, Hx1.out.trans y'.h⟩
    · have hn' : (a.num == b.num) = true := hn
      have SM := Lib.hid (fun W : World => show Calls Tryd.prog 32 #[.agg #[.string a.src, .int .i64 a.num, .int .i64 a.tick, .int .i64 a.kind, .string a.person, .string a.item, .int .i64 a.value, .string a.text], .agg #[.string b.src, .int .i64 b.num, .int .i64 b.tick, .int .i64 b.kind, .string b.person, .string b.item, .int .i64 b.value, .string b.text]] W (fun r w' => r = .returned (.bool true) ∧ Ext W w') by have h9 := ev_Same a b W; rw [show sameE a b = true by unfold sameE; rw [hs, hn]; rfl] at h9; exact h9)
      clear hs hn
      go_enter Tryd.func7, Tryd.ntmps7
      go_wp2_with (first | (go_at_call 12; refine (law_lives _ (Hv.out.ext ((((Keeps.refl _ _).alloc _).alloc _).alloc _))).mono ?_; rintro _ X ⟨rfl, hx1⟩; obtain ⟨gA, gB, gC, hx0⟩ := three_boxes hx1; have a0 := blk_cell gA 0 rfl; have a1 := blk_cell gA 1 rfl; have a2 := blk_cell gA 2 rfl; have a3 := blk_cell gA 3 rfl; have a4 := blk_cell gA 4 rfl; have a5 := blk_cell gA 5 rfl; have a6 := blk_cell gA 6 rfl; have a7 := blk_cell gA 7 rfl; have sa := (Array.getElem?_eq_some_iff.1 gA).1; have b0 := blk_cell gB 0 rfl; have b1 := blk_cell gB 1 rfl; have b2 := blk_cell gB 2 rfl; have b3 := blk_cell gB 3 rfl; have b4 := blk_cell gB 4 rfl; have b5 := blk_cell gB 5 rfl; have b6 := blk_cell gB 6 rfl; have b7 := blk_cell gB 7 rfl; have sb := (Array.getElem?_eq_some_iff.1 gB).1; have c0 := blk_cell gC 0 rfl; have c1 := blk_cell gC 1 rfl; have c2 := blk_cell gC 2 rfl; have c3 := blk_cell gC 3 rfl; have c4 := blk_cell gC 4 rfl; have c5 := blk_cell gC 5 rfl; have c6 := blk_cell gC 6 rfl; have c7 := blk_cell gC 7 rfl; have sc := (Array.getElem?_eq_some_iff.1 gC).1; have Hx1 := Lib.hid hx0; clear hx1 hx0 gA gB gC) | (go_at_call 13; (with_reducible refine (Ga.out _).mono ?_); rintro _ Wa ⟨rfl, hx2⟩; have hra := ext_rule hx2; have Hya := Lib.hid hx2; clear hx2) | (go_at_call 13; (with_reducible refine (Gb.out _).mono ?_); rintro _ Wb ⟨rfl, hx2⟩; have Hyb := Lib.hid (Hya.out.trans hx2); have hrb := ext_rule Hyb.out; clear hx2) | (go_at_call 13; (with_reducible refine (Gc.out _).mono ?_); rintro _ Wc ⟨rfl, hx2⟩; have Hyc := Lib.hid (Hyb.out.trans hx2); have hrc := ext_rule Hyc.out; clear hx2) | (go_at_call 30; (with_reducible refine (L1.out _).mono ?_); rintro _ Wd ⟨rfl, hx2⟩; have Hyd := Lib.hid (Hyc.out.trans hx2); have hrd := ext_rule Hyd.out; clear hx2) | (go_at_call 30; (with_reducible refine (L2.out _).mono ?_); rintro _ We ⟨rfl, hx2⟩; have Hye := Lib.hid (Hyd.out.trans hx2); clear hx2))
      clear hra hrb hrc hrd
      have hye := Hye.out
      have hOe : Old X We := Old.of_ext hye
      refine wp_region_ext X hye (by kernel_rfl) (by kernel_rfl) ?_
      have hcell := fun (y : XW X) => y.cell
      repeat (go_big_quiet_step (first | (go_at_call 31; with_reducible exact ext_calls (C1.out _)) | (go_at_call 31; with_reducible exact ext_calls (C2.out _)) | (go_at_call 31; with_reducible exact ext_calls (C3.out _))))
      refine wpQuiet_nil ?_
      rintro _ ⟨y1, rfl⟩
      obtain ⟨W5, hy⟩ := y1
      simp only
      clear hye hOe hcell
      go_wp2_with fail
      refine wp_region_ext X hy (by kernel_rfl) (by kernel_rfl) ?_
      have hcell := fun (y : XW X) => y.cell
      repeat (go_big_quiet_step (first | (go_at_call 31; with_reducible exact ext_calls (C4.out _)) | (go_at_call 31; with_reducible exact ext_calls (C5.out _)) | (go_at_call 32; with_reducible exact ext_calls (SM.out _))))
      refine wpQuiet_nil ?_
      rintro _ ⟨y', rfl⟩
      go_wp2_with fail
      go_ret
      exact ⟨rfl, Hx1.out.trans y'.h⟩

set_option maxRecDepth 100000 in
set_option maxHeartbeats 8000000 in
theorem law_Cmp_m5 (a b c : Ev) (w : World) (hwa : EvWf a) (hwb : EvWf b) (hwc : EvWf c) (hv : Vars w) (hba : bigE a 1000 = false) (hbb : bigE b 1000 = false) (hbc : bigE c 1000 = false) (hx : cmpE a b = 0) (hx' : cmpE b a = 0) (hl1 : lessE a b = false) (hl2 : lessE b a = false) (hy : cmpE b c = 0) (hz : cmpE a c = 0) :
    Calls Tryd.prog 7 #[.agg #[.string a.src, .int .i64 a.num, .int .i64 a.tick, .int .i64 a.kind, .string a.person, .string a.item, .int .i64 a.value, .string a.text], .agg #[.string b.src, .int .i64 b.num, .int .i64 b.tick, .int .i64 b.kind, .string b.person, .string b.item, .int .i64 b.value, .string b.text], .agg #[.string c.src, .int .i64 c.num, .int .i64 c.tick, .int .i64 c.kind, .string c.person, .string c.item, .int .i64 c.value, .string c.text]] w fun r w' => r = .returned (.bool true) ∧ Ext w w' := by
  have Hv := Lib.hid hv
  clear hv
  have C1 := Lib.hid (fun W : World => show Calls Tryd.prog 31 #[.agg #[.string a.src, .int .i64 a.num, .int .i64 a.tick, .int .i64 a.kind, .string a.person, .string a.item, .int .i64 a.value, .string a.text], .agg #[.string b.src, .int .i64 b.num, .int .i64 b.tick, .int .i64 b.kind, .string b.person, .string b.item, .int .i64 b.value, .string b.text]] W (fun r w' => r = .returned (.int .i64 (0)) ∧ Ext W w') by rw [← hx]; exact ev_Compare a b W)
  have C2 := Lib.hid (fun W : World => show Calls Tryd.prog 31 #[.agg #[.string b.src, .int .i64 b.num, .int .i64 b.tick, .int .i64 b.kind, .string b.person, .string b.item, .int .i64 b.value, .string b.text], .agg #[.string c.src, .int .i64 c.num, .int .i64 c.tick, .int .i64 c.kind, .string c.person, .string c.item, .int .i64 c.value, .string c.text]] W (fun r w' => r = .returned (.int .i64 (0)) ∧ Ext W w') by rw [← hy]; exact ev_Compare b c W)
  have C3 := Lib.hid (fun W : World => show Calls Tryd.prog 31 #[.agg #[.string a.src, .int .i64 a.num, .int .i64 a.tick, .int .i64 a.kind, .string a.person, .string a.item, .int .i64 a.value, .string a.text], .agg #[.string c.src, .int .i64 c.num, .int .i64 c.tick, .int .i64 c.kind, .string c.person, .string c.item, .int .i64 c.value, .string c.text]] W (fun r w' => r = .returned (.int .i64 (0)) ∧ Ext W w') by rw [← hz]; exact ev_Compare a c W)
  have C4 := Lib.hid (fun W : World => show Calls Tryd.prog 31 #[.agg #[.string b.src, .int .i64 b.num, .int .i64 b.tick, .int .i64 b.kind, .string b.person, .string b.item, .int .i64 b.value, .string b.text], .agg #[.string a.src, .int .i64 a.num, .int .i64 a.tick, .int .i64 a.kind, .string a.person, .string a.item, .int .i64 a.value, .string a.text]] W (fun r w' => r = .returned (.int .i64 (0)) ∧ Ext W w') by rw [← hx']; exact ev_Compare b a W)
  have C5 := Lib.hid (fun W : World => show Calls Tryd.prog 31 #[.agg #[.string a.src, .int .i64 a.num, .int .i64 a.tick, .int .i64 a.kind, .string a.person, .string a.item, .int .i64 a.value, .string a.text], .agg #[.string a.src, .int .i64 a.num, .int .i64 a.tick, .int .i64 a.kind, .string a.person, .string a.item, .int .i64 a.value, .string a.text]] W (fun r w' => r = .returned (.int .i64 0) ∧ Ext W w') by rw [← cmpE_self a]; exact ev_Compare a a W)
  have L1 := Lib.hid (fun W : World => show Calls Tryd.prog 30 #[.agg #[.string a.src, .int .i64 a.num, .int .i64 a.tick, .int .i64 a.kind, .string a.person, .string a.item, .int .i64 a.value, .string a.text], .agg #[.string b.src, .int .i64 b.num, .int .i64 b.tick, .int .i64 b.kind, .string b.person, .string b.item, .int .i64 b.value, .string b.text]] W (fun r w' => r = .returned (.bool false) ∧ Ext W w') by rw [← hl1]; exact ref_Less a b W)
  have L2 := Lib.hid (fun W : World => show Calls Tryd.prog 30 #[.agg #[.string b.src, .int .i64 b.num, .int .i64 b.tick, .int .i64 b.kind, .string b.person, .string b.item, .int .i64 b.value, .string b.text], .agg #[.string a.src, .int .i64 a.num, .int .i64 a.tick, .int .i64 a.kind, .string a.person, .string a.item, .int .i64 a.value, .string a.text]] W (fun r w' => r = .returned (.bool false) ∧ Ext W w') by rw [← hl2]; exact ref_Less b a W)
  have Ga := Lib.hid (fun W : World => show Calls Tryd.prog 13 #[.agg #[.string a.src, .int .i64 a.num, .int .i64 a.tick, .int .i64 a.kind, .string a.person, .string a.item, .int .i64 a.value, .string a.text], .int .i64 1000] W (fun r w' => r = .returned (.bool false) ∧ Ext W w') by rw [← hba]; exact ref_Big a 1000 W hwa)
  have Gb := Lib.hid (fun W : World => show Calls Tryd.prog 13 #[.agg #[.string b.src, .int .i64 b.num, .int .i64 b.tick, .int .i64 b.kind, .string b.person, .string b.item, .int .i64 b.value, .string b.text], .int .i64 1000] W (fun r w' => r = .returned (.bool false) ∧ Ext W w') by rw [← hbb]; exact ref_Big b 1000 W hwb)
  have Gc := Lib.hid (fun W : World => show Calls Tryd.prog 13 #[.agg #[.string c.src, .int .i64 c.num, .int .i64 c.tick, .int .i64 c.kind, .string c.person, .string c.item, .int .i64 c.value, .string c.text], .int .i64 1000] W (fun r w' => r = .returned (.bool false) ∧ Ext W w') by rw [← hbc]; exact ref_Big c 1000 W hwc)
  clear hwa hba hwb hbb hwc hbc
  clear hx hx' hl1 hl2 hy hz
  cases hs : (a.src == b.src) <;> have hs' := hs <;> rw [beq_toListBytes] at hs'
  · have SM := Lib.hid (fun W : World => show Calls Tryd.prog 32 #[.agg #[.string a.src, .int .i64 a.num, .int .i64 a.tick, .int .i64 a.kind, .string a.person, .string a.item, .int .i64 a.value, .string a.text], .agg #[.string b.src, .int .i64 b.num, .int .i64 b.tick, .int .i64 b.kind, .string b.person, .string b.item, .int .i64 b.value, .string b.text]] W (fun r w' => r = .returned (.bool false) ∧ Ext W w') by have h9 := ev_Same a b W; rw [show sameE a b = false by unfold sameE; rw [hs]; rfl] at h9; exact h9)
    clear hs
    go_enter Tryd.func7, Tryd.ntmps7
    go_wp2_with (first | (go_at_call 12; refine (law_lives _ (Hv.out.ext ((((Keeps.refl _ _).alloc _).alloc _).alloc _))).mono ?_; rintro _ X ⟨rfl, hx1⟩; obtain ⟨gA, gB, gC, hx0⟩ := three_boxes hx1; have a0 := blk_cell gA 0 rfl; have a1 := blk_cell gA 1 rfl; have a2 := blk_cell gA 2 rfl; have a3 := blk_cell gA 3 rfl; have a4 := blk_cell gA 4 rfl; have a5 := blk_cell gA 5 rfl; have a6 := blk_cell gA 6 rfl; have a7 := blk_cell gA 7 rfl; have sa := (Array.getElem?_eq_some_iff.1 gA).1; have b0 := blk_cell gB 0 rfl; have b1 := blk_cell gB 1 rfl; have b2 := blk_cell gB 2 rfl; have b3 := blk_cell gB 3 rfl; have b4 := blk_cell gB 4 rfl; have b5 := blk_cell gB 5 rfl; have b6 := blk_cell gB 6 rfl; have b7 := blk_cell gB 7 rfl; have sb := (Array.getElem?_eq_some_iff.1 gB).1; have c0 := blk_cell gC 0 rfl; have c1 := blk_cell gC 1 rfl; have c2 := blk_cell gC 2 rfl; have c3 := blk_cell gC 3 rfl; have c4 := blk_cell gC 4 rfl; have c5 := blk_cell gC 5 rfl; have c6 := blk_cell gC 6 rfl; have c7 := blk_cell gC 7 rfl; have sc := (Array.getElem?_eq_some_iff.1 gC).1; have Hx1 := Lib.hid hx0; clear hx1 hx0 gA gB gC) | (go_at_call 13; (with_reducible refine (Ga.out _).mono ?_); rintro _ Wa ⟨rfl, hx2⟩; have hra := ext_rule hx2; have Hya := Lib.hid hx2; clear hx2) | (go_at_call 13; (with_reducible refine (Gb.out _).mono ?_); rintro _ Wb ⟨rfl, hx2⟩; have Hyb := Lib.hid (Hya.out.trans hx2); have hrb := ext_rule Hyb.out; clear hx2) | (go_at_call 13; (with_reducible refine (Gc.out _).mono ?_); rintro _ Wc ⟨rfl, hx2⟩; have Hyc := Lib.hid (Hyb.out.trans hx2); have hrc := ext_rule Hyc.out; clear hx2) | (go_at_call 30; (with_reducible refine (L1.out _).mono ?_); rintro _ Wd ⟨rfl, hx2⟩; have Hyd := Lib.hid (Hyc.out.trans hx2); have hrd := ext_rule Hyd.out; clear hx2) | (go_at_call 30; (with_reducible refine (L2.out _).mono ?_); rintro _ We ⟨rfl, hx2⟩; have Hye := Lib.hid (Hyd.out.trans hx2); clear hx2))
    clear hra hrb hrc hrd
    have hye := Hye.out
    have hOe : Old X We := Old.of_ext hye
    refine wp_region_ext X hye (by kernel_rfl) (by kernel_rfl) ?_
    have hcell := fun (y : XW X) => y.cell
    repeat (go_big_quiet_step (first | (go_at_call 31; with_reducible exact ext_calls (C1.out _)) | (go_at_call 31; with_reducible exact ext_calls (C2.out _)) | (go_at_call 31; with_reducible exact ext_calls (C3.out _))))
    refine wpQuiet_nil ?_
    rintro _ ⟨y1, rfl⟩
    obtain ⟨W5, hy⟩ := y1
    simp only
    clear hye hOe hcell
    go_wp2_with fail
    refine wp_region_ext X hy (by kernel_rfl) (by kernel_rfl) ?_
    have hcell := fun (y : XW X) => y.cell
    repeat (go_big_quiet_step (first | (go_at_call 31; with_reducible exact ext_calls (C4.out _)) | (go_at_call 31; with_reducible exact ext_calls (C5.out _)) | (go_at_call 32; with_reducible exact ext_calls (SM.out _))))
    refine wpQuiet_nil ?_
    rintro _ ⟨y', rfl⟩
    go_wp2_with fail
    go_ret
    exact ⟨rfl, Hx1.out.trans y'.h⟩
  · cases hn : decide (a.num = b.num)
    · have hn' : (a.num == b.num) = false := hn
      have SM := Lib.hid (fun W : World => show Calls Tryd.prog 32 #[.agg #[.string a.src, .int .i64 a.num, .int .i64 a.tick, .int .i64 a.kind, .string a.person, .string a.item, .int .i64 a.value, .string a.text], .agg #[.string b.src, .int .i64 b.num, .int .i64 b.tick, .int .i64 b.kind, .string b.person, .string b.item, .int .i64 b.value, .string b.text]] W (fun r w' => r = .returned (.bool false) ∧ Ext W w') by have h9 := ev_Same a b W; rw [show sameE a b = false by unfold sameE; rw [hs, hn]; rfl] at h9; exact h9)
      clear hs hn
      go_enter Tryd.func7, Tryd.ntmps7
      go_wp2_with (first | (go_at_call 12; refine (law_lives _ (Hv.out.ext ((((Keeps.refl _ _).alloc _).alloc _).alloc _))).mono ?_; rintro _ X ⟨rfl, hx1⟩; obtain ⟨gA, gB, gC, hx0⟩ := three_boxes hx1; have a0 := blk_cell gA 0 rfl; have a1 := blk_cell gA 1 rfl; have a2 := blk_cell gA 2 rfl; have a3 := blk_cell gA 3 rfl; have a4 := blk_cell gA 4 rfl; have a5 := blk_cell gA 5 rfl; have a6 := blk_cell gA 6 rfl; have a7 := blk_cell gA 7 rfl; have sa := (Array.getElem?_eq_some_iff.1 gA).1; have b0 := blk_cell gB 0 rfl; have b1 := blk_cell gB 1 rfl; have b2 := blk_cell gB 2 rfl; have b3 := blk_cell gB 3 rfl; have b4 := blk_cell gB 4 rfl; have b5 := blk_cell gB 5 rfl; have b6 := blk_cell gB 6 rfl; have b7 := blk_cell gB 7 rfl; have sb := (Array.getElem?_eq_some_iff.1 gB).1; have c0 := blk_cell gC 0 rfl; have c1 := blk_cell gC 1 rfl; have c2 := blk_cell gC 2 rfl; have c3 := blk_cell gC 3 rfl; have c4 := blk_cell gC 4 rfl; have c5 := blk_cell gC 5 rfl; have c6 := blk_cell gC 6 rfl; have c7 := blk_cell gC 7 rfl; have sc := (Array.getElem?_eq_some_iff.1 gC).1; have Hx1 := Lib.hid hx0; clear hx1 hx0 gA gB gC) | (go_at_call 13; (with_reducible refine (Ga.out _).mono ?_); rintro _ Wa ⟨rfl, hx2⟩; have hra := ext_rule hx2; have Hya := Lib.hid hx2; clear hx2) | (go_at_call 13; (with_reducible refine (Gb.out _).mono ?_); rintro _ Wb ⟨rfl, hx2⟩; have Hyb := Lib.hid (Hya.out.trans hx2); have hrb := ext_rule Hyb.out; clear hx2) | (go_at_call 13; (with_reducible refine (Gc.out _).mono ?_); rintro _ Wc ⟨rfl, hx2⟩; have Hyc := Lib.hid (Hyb.out.trans hx2); have hrc := ext_rule Hyc.out; clear hx2) | (go_at_call 30; (with_reducible refine (L1.out _).mono ?_); rintro _ Wd ⟨rfl, hx2⟩; have Hyd := Lib.hid (Hyc.out.trans hx2); have hrd := ext_rule Hyd.out; clear hx2) | (go_at_call 30; (with_reducible refine (L2.out _).mono ?_); rintro _ We ⟨rfl, hx2⟩; have Hye := Lib.hid (Hyd.out.trans hx2); clear hx2))
      clear hra hrb hrc hrd
      have hye := Hye.out
      have hOe : Old X We := Old.of_ext hye
      refine wp_region_ext X hye (by kernel_rfl) (by kernel_rfl) ?_
      have hcell := fun (y : XW X) => y.cell
      repeat (go_big_quiet_step (first | (go_at_call 31; with_reducible exact ext_calls (C1.out _)) | (go_at_call 31; with_reducible exact ext_calls (C2.out _)) | (go_at_call 31; with_reducible exact ext_calls (C3.out _))))
      refine wpQuiet_nil ?_
      rintro _ ⟨y1, rfl⟩
      obtain ⟨W5, hy⟩ := y1
      simp only
      clear hye hOe hcell
      go_wp2_with fail
      refine wp_region_ext X hy (by kernel_rfl) (by kernel_rfl) ?_
      have hcell := fun (y : XW X) => y.cell
      repeat (go_big_quiet_step (first | (go_at_call 31; with_reducible exact ext_calls (C4.out _)) | (go_at_call 31; with_reducible exact ext_calls (C5.out _)) | (go_at_call 32; with_reducible exact ext_calls (SM.out _))))
      refine wpQuiet_nil ?_
      rintro _ ⟨y', rfl⟩
      go_wp2_with fail
      go_ret
      exact ⟨rfl, Hx1.out.trans y'.h⟩
    · have hn' : (a.num == b.num) = true := hn
      have SM := Lib.hid (fun W : World => show Calls Tryd.prog 32 #[.agg #[.string a.src, .int .i64 a.num, .int .i64 a.tick, .int .i64 a.kind, .string a.person, .string a.item, .int .i64 a.value, .string a.text], .agg #[.string b.src, .int .i64 b.num, .int .i64 b.tick, .int .i64 b.kind, .string b.person, .string b.item, .int .i64 b.value, .string b.text]] W (fun r w' => r = .returned (.bool true) ∧ Ext W w') by have h9 := ev_Same a b W; rw [show sameE a b = true by unfold sameE; rw [hs, hn]; rfl] at h9; exact h9)
      clear hs hn
      go_enter Tryd.func7, Tryd.ntmps7
      go_wp2_with (first | (go_at_call 12; refine (law_lives _ (Hv.out.ext ((((Keeps.refl _ _).alloc _).alloc _).alloc _))).mono ?_; rintro _ X ⟨rfl, hx1⟩; obtain ⟨gA, gB, gC, hx0⟩ := three_boxes hx1; have a0 := blk_cell gA 0 rfl; have a1 := blk_cell gA 1 rfl; have a2 := blk_cell gA 2 rfl; have a3 := blk_cell gA 3 rfl; have a4 := blk_cell gA 4 rfl; have a5 := blk_cell gA 5 rfl; have a6 := blk_cell gA 6 rfl; have a7 := blk_cell gA 7 rfl; have sa := (Array.getElem?_eq_some_iff.1 gA).1; have b0 := blk_cell gB 0 rfl; have b1 := blk_cell gB 1 rfl; have b2 := blk_cell gB 2 rfl; have b3 := blk_cell gB 3 rfl; have b4 := blk_cell gB 4 rfl; have b5 := blk_cell gB 5 rfl; have b6 := blk_cell gB 6 rfl; have b7 := blk_cell gB 7 rfl; have sb := (Array.getElem?_eq_some_iff.1 gB).1; have c0 := blk_cell gC 0 rfl; have c1 := blk_cell gC 1 rfl; have c2 := blk_cell gC 2 rfl; have c3 := blk_cell gC 3 rfl; have c4 := blk_cell gC 4 rfl; have c5 := blk_cell gC 5 rfl; have c6 := blk_cell gC 6 rfl; have c7 := blk_cell gC 7 rfl; have sc := (Array.getElem?_eq_some_iff.1 gC).1; have Hx1 := Lib.hid hx0; clear hx1 hx0 gA gB gC) | (go_at_call 13; (with_reducible refine (Ga.out _).mono ?_); rintro _ Wa ⟨rfl, hx2⟩; have hra := ext_rule hx2; have Hya := Lib.hid hx2; clear hx2) | (go_at_call 13; (with_reducible refine (Gb.out _).mono ?_); rintro _ Wb ⟨rfl, hx2⟩; have Hyb := Lib.hid (Hya.out.trans hx2); have hrb := ext_rule Hyb.out; clear hx2) | (go_at_call 13; (with_reducible refine (Gc.out _).mono ?_); rintro _ Wc ⟨rfl, hx2⟩; have Hyc := Lib.hid (Hyb.out.trans hx2); have hrc := ext_rule Hyc.out; clear hx2) | (go_at_call 30; (with_reducible refine (L1.out _).mono ?_); rintro _ Wd ⟨rfl, hx2⟩; have Hyd := Lib.hid (Hyc.out.trans hx2); have hrd := ext_rule Hyd.out; clear hx2) | (go_at_call 30; (with_reducible refine (L2.out _).mono ?_); rintro _ We ⟨rfl, hx2⟩; have Hye := Lib.hid (Hyd.out.trans hx2); clear hx2))
      clear hra hrb hrc hrd
      have hye := Hye.out
      have hOe : Old X We := Old.of_ext hye
      refine wp_region_ext X hye (by kernel_rfl) (by kernel_rfl) ?_
      have hcell := fun (y : XW X) => y.cell
      repeat (go_big_quiet_step (first | (go_at_call 31; with_reducible exact ext_calls (C1.out _)) | (go_at_call 31; with_reducible exact ext_calls (C2.out _)) | (go_at_call 31; with_reducible exact ext_calls (C3.out _))))
      refine wpQuiet_nil ?_
      rintro _ ⟨y1, rfl⟩
      obtain ⟨W5, hy⟩ := y1
      simp only
      clear hye hOe hcell
      go_wp2_with fail
      refine wp_region_ext X hy (by kernel_rfl) (by kernel_rfl) ?_
      have hcell := fun (y : XW X) => y.cell
      repeat (go_big_quiet_step (first | (go_at_call 31; with_reducible exact ext_calls (C4.out _)) | (go_at_call 31; with_reducible exact ext_calls (C5.out _)) | (go_at_call 32; with_reducible exact ext_calls (SM.out _))))
      refine wpQuiet_nil ?_
      rintro _ ⟨y', rfl⟩
      go_wp2_with fail
      go_ret
      exact ⟨rfl, Hx1.out.trans y'.h⟩

end Go.Proofs.YtihdeidaekheoaaDoor
