/-
  What is proved here: the law EventUnlike returns true where it ends early: an event is big, or may not be. Conditions: no text is longer than a text can be; the library's variables, and the names of the kinds, hold what their text lays.
-/
import Derived.Test.YtihdeidaekheoaaDoorLawBytes
import Derived.Test.YtihdeidaekheoaaDoorLawCmp
import Derived.Test.YtihdeidaekheoaaDoorEvFmtP
namespace Go.Proofs.YtihdeidaekheoaaDoor
open Go Go.RowKit Go.Proofs
attribute [local go_sem ↓] Go.wp_at_zero Go.wp_at_succ
theorem two_boxes {w X : World} {A B : Obj} (h : Ext ((w.alloc A).alloc B) X) : X.heap[w.heap.size]? = some A ∧ X.heap[w.heap.size + 1]? = some B ∧ Ext w X := by
  refine ⟨h.blk (blk_old (blk_new w A) B), h.blk ?_, Keeps.trans (((Keeps.refl _ w).alloc A).alloc B) h⟩
  have := blk_new (w.alloc A) B
  simpa using this
set_option maxRecDepth 100000 in
set_option maxHeartbeats 8000000 in
theorem law_Unl_1 (a b : Ev) (w : World) (hwa : EvWf a) (hv : Vars w) (hba : bigE a 300 = true) :
    Calls Tryd.prog 3 #[.agg #[.string a.src, .int .i64 a.num, .int .i64 a.tick, .int .i64 a.kind, .string a.person, .string a.item, .int .i64 a.value, .string a.text], .agg #[.string b.src, .int .i64 b.num, .int .i64 b.tick, .int .i64 b.kind, .string b.person, .string b.item, .int .i64 b.value, .string b.text]] w fun r w' => r = .returned (.bool true) ∧ Ext w w' := by
  have Hv := Lib.hid hv
  have Ga := Lib.hid (fun W : World => show Calls Tryd.prog 13 #[.agg #[.string a.src, .int .i64 a.num, .int .i64 a.tick, .int .i64 a.kind, .string a.person, .string a.item, .int .i64 a.value, .string a.text], .int .i64 300] W (fun r w' => r = .returned (.bool true) ∧ Ext W w') by rw [← hba]; exact ref_Big a 300 W hwa)
  clear hv hwa hba
  go_enter Tryd.func3, Tryd.ntmps3
  go_wp2_with (first | (go_at_call 12; refine (law_lives _ (Hv.out.ext (((Keeps.refl _ _).alloc _).alloc _))).mono ?_; rintro _ X ⟨rfl, hx1⟩; obtain ⟨gA, gB, hx0⟩ := two_boxes hx1; have a0 := blk_cell gA 0 rfl; have a1 := blk_cell gA 1 rfl; have a2 := blk_cell gA 2 rfl; have a3 := blk_cell gA 3 rfl; have a4 := blk_cell gA 4 rfl; have a5 := blk_cell gA 5 rfl; have a6 := blk_cell gA 6 rfl; have a7 := blk_cell gA 7 rfl; have b0 := blk_cell gB 0 rfl; have b1 := blk_cell gB 1 rfl; have b2 := blk_cell gB 2 rfl; have b3 := blk_cell gB 3 rfl; have b4 := blk_cell gB 4 rfl; have b5 := blk_cell gB 5 rfl; have b6 := blk_cell gB 6 rfl; have b7 := blk_cell gB 7 rfl; have sa := (Array.getElem?_eq_some_iff.1 gA).1; have sb := (Array.getElem?_eq_some_iff.1 gB).1; have HgA := Lib.hid gA; have HgB := Lib.hid gB; have Hx1 := Lib.hid hx0; clear hx1 hx0 gA gB) | (go_at_call 13; (with_reducible refine (Ga.out _).mono ?_); rintro _ Wa ⟨rfl, hx2⟩; have hra := ext_rule hx2; have Hya := Lib.hid hx2; clear hx2))
  go_ret
  exact ⟨rfl, Hx1.out.trans Hya.out⟩
set_option maxRecDepth 100000 in
set_option maxHeartbeats 8000000 in
theorem law_Unl_2 (a b : Ev) (w : World) (hwa : EvWf a) (hwb : EvWf b) (hv : Vars w) (hba : bigE a 300 = false) (hbb : bigE b 300 = true) :
    Calls Tryd.prog 3 #[.agg #[.string a.src, .int .i64 a.num, .int .i64 a.tick, .int .i64 a.kind, .string a.person, .string a.item, .int .i64 a.value, .string a.text], .agg #[.string b.src, .int .i64 b.num, .int .i64 b.tick, .int .i64 b.kind, .string b.person, .string b.item, .int .i64 b.value, .string b.text]] w fun r w' => r = .returned (.bool true) ∧ Ext w w' := by
  have Hv := Lib.hid hv
  have Ga := Lib.hid (fun W : World => show Calls Tryd.prog 13 #[.agg #[.string a.src, .int .i64 a.num, .int .i64 a.tick, .int .i64 a.kind, .string a.person, .string a.item, .int .i64 a.value, .string a.text], .int .i64 300] W (fun r w' => r = .returned (.bool false) ∧ Ext W w') by rw [← hba]; exact ref_Big a 300 W hwa)
  have Gb := Lib.hid (fun W : World => show Calls Tryd.prog 13 #[.agg #[.string b.src, .int .i64 b.num, .int .i64 b.tick, .int .i64 b.kind, .string b.person, .string b.item, .int .i64 b.value, .string b.text], .int .i64 300] W (fun r w' => r = .returned (.bool true) ∧ Ext W w') by rw [← hbb]; exact ref_Big b 300 W hwb)
  clear hv hwa hba hwb hbb
  go_enter Tryd.func3, Tryd.ntmps3
  go_wp2_with (first | (go_at_call 12; refine (law_lives _ (Hv.out.ext (((Keeps.refl _ _).alloc _).alloc _))).mono ?_; rintro _ X ⟨rfl, hx1⟩; obtain ⟨gA, gB, hx0⟩ := two_boxes hx1; have a0 := blk_cell gA 0 rfl; have a1 := blk_cell gA 1 rfl; have a2 := blk_cell gA 2 rfl; have a3 := blk_cell gA 3 rfl; have a4 := blk_cell gA 4 rfl; have a5 := blk_cell gA 5 rfl; have a6 := blk_cell gA 6 rfl; have a7 := blk_cell gA 7 rfl; have b0 := blk_cell gB 0 rfl; have b1 := blk_cell gB 1 rfl; have b2 := blk_cell gB 2 rfl; have b3 := blk_cell gB 3 rfl; have b4 := blk_cell gB 4 rfl; have b5 := blk_cell gB 5 rfl; have b6 := blk_cell gB 6 rfl; have b7 := blk_cell gB 7 rfl; have sa := (Array.getElem?_eq_some_iff.1 gA).1; have sb := (Array.getElem?_eq_some_iff.1 gB).1; have HgA := Lib.hid gA; have HgB := Lib.hid gB; have Hx1 := Lib.hid hx0; clear hx1 hx0 gA gB) | (go_at_call 13; (with_reducible refine (Ga.out _).mono ?_); rintro _ Wa ⟨rfl, hx2⟩; have hra := ext_rule hx2; have Hya := Lib.hid hx2; clear hx2) | (go_at_call 13; (with_reducible refine (Gb.out _).mono ?_); rintro _ Wb ⟨rfl, hx2⟩; have Hyb := Lib.hid (Hya.out.trans hx2); have hrb := ext_rule Hyb.out; clear hx2))
  go_ret
  exact ⟨rfl, Hx1.out.trans Hyb.out⟩
set_option maxRecDepth 100000 in
set_option maxHeartbeats 8000000 in
theorem law_Unl_3 (a b : Ev) (w : World) (hwa : EvWf a) (hwb : EvWf b) (hv : Vars w) (hba : bigE a 300 = false) (hbb : bigE b 300 = false) (hma : mayE a = false) :
    Calls Tryd.prog 3 #[.agg #[.string a.src, .int .i64 a.num, .int .i64 a.tick, .int .i64 a.kind, .string a.person, .string a.item, .int .i64 a.value, .string a.text], .agg #[.string b.src, .int .i64 b.num, .int .i64 b.tick, .int .i64 b.kind, .string b.person, .string b.item, .int .i64 b.value, .string b.text]] w fun r w' => r = .returned (.bool true) ∧ Ext w w' := by
  have Hv := Lib.hid hv
  have Ga := Lib.hid (fun W : World => show Calls Tryd.prog 13 #[.agg #[.string a.src, .int .i64 a.num, .int .i64 a.tick, .int .i64 a.kind, .string a.person, .string a.item, .int .i64 a.value, .string a.text], .int .i64 300] W (fun r w' => r = .returned (.bool false) ∧ Ext W w') by rw [← hba]; exact ref_Big a 300 W hwa)
  have Gb := Lib.hid (fun W : World => show Calls Tryd.prog 13 #[.agg #[.string b.src, .int .i64 b.num, .int .i64 b.tick, .int .i64 b.kind, .string b.person, .string b.item, .int .i64 b.value, .string b.text], .int .i64 300] W (fun r w' => r = .returned (.bool false) ∧ Ext W w') by rw [← hbb]; exact ref_Big b 300 W hwb)
  have Ma := Lib.hid (fun W : World => show Calls Tryd.prog 14 #[.agg #[.string a.src, .int .i64 a.num, .int .i64 a.tick, .int .i64 a.kind, .string a.person, .string a.item, .int .i64 a.value, .string a.text]] W (fun r w' => r = .returned (.bool false) ∧ Ext W w') by rw [← hma]; exact ref_May a W (evSm_of hba (by omega)))
  clear hv hwa hba hwb hbb hma
  go_enter Tryd.func3, Tryd.ntmps3
  go_wp2_with (first | (go_at_call 12; refine (law_lives _ (Hv.out.ext (((Keeps.refl _ _).alloc _).alloc _))).mono ?_; rintro _ X ⟨rfl, hx1⟩; obtain ⟨gA, gB, hx0⟩ := two_boxes hx1; have a0 := blk_cell gA 0 rfl; have a1 := blk_cell gA 1 rfl; have a2 := blk_cell gA 2 rfl; have a3 := blk_cell gA 3 rfl; have a4 := blk_cell gA 4 rfl; have a5 := blk_cell gA 5 rfl; have a6 := blk_cell gA 6 rfl; have a7 := blk_cell gA 7 rfl; have b0 := blk_cell gB 0 rfl; have b1 := blk_cell gB 1 rfl; have b2 := blk_cell gB 2 rfl; have b3 := blk_cell gB 3 rfl; have b4 := blk_cell gB 4 rfl; have b5 := blk_cell gB 5 rfl; have b6 := blk_cell gB 6 rfl; have b7 := blk_cell gB 7 rfl; have sa := (Array.getElem?_eq_some_iff.1 gA).1; have sb := (Array.getElem?_eq_some_iff.1 gB).1; have HgA := Lib.hid gA; have HgB := Lib.hid gB; have Hx1 := Lib.hid hx0; clear hx1 hx0 gA gB) | (go_at_call 13; (with_reducible refine (Ga.out _).mono ?_); rintro _ Wa ⟨rfl, hx2⟩; have hra := ext_rule hx2; have Hya := Lib.hid hx2; clear hx2) | (go_at_call 13; (with_reducible refine (Gb.out _).mono ?_); rintro _ Wb ⟨rfl, hx2⟩; have Hyb := Lib.hid (Hya.out.trans hx2); have hrb := ext_rule Hyb.out; clear hx2) | (go_at_call 14; (with_reducible refine (Ma.out _).mono ?_); rintro _ Wc ⟨rfl, hx2⟩; have Hyc := Lib.hid (Hyb.out.trans hx2); have hrc := ext_rule Hyc.out; clear hx2))
  go_ret
  exact ⟨rfl, Hx1.out.trans Hyc.out⟩
set_option maxRecDepth 100000 in
set_option maxHeartbeats 8000000 in
theorem law_Unl_4 (a b : Ev) (w : World) (hwa : EvWf a) (hwb : EvWf b) (hv : Vars w) (hba : bigE a 300 = false) (hbb : bigE b 300 = false) (hma : mayE a = true) (hmb : mayE b = false) :
    Calls Tryd.prog 3 #[.agg #[.string a.src, .int .i64 a.num, .int .i64 a.tick, .int .i64 a.kind, .string a.person, .string a.item, .int .i64 a.value, .string a.text], .agg #[.string b.src, .int .i64 b.num, .int .i64 b.tick, .int .i64 b.kind, .string b.person, .string b.item, .int .i64 b.value, .string b.text]] w fun r w' => r = .returned (.bool true) ∧ Ext w w' := by
  have Hv := Lib.hid hv
  have Ga := Lib.hid (fun W : World => show Calls Tryd.prog 13 #[.agg #[.string a.src, .int .i64 a.num, .int .i64 a.tick, .int .i64 a.kind, .string a.person, .string a.item, .int .i64 a.value, .string a.text], .int .i64 300] W (fun r w' => r = .returned (.bool false) ∧ Ext W w') by rw [← hba]; exact ref_Big a 300 W hwa)
  have Gb := Lib.hid (fun W : World => show Calls Tryd.prog 13 #[.agg #[.string b.src, .int .i64 b.num, .int .i64 b.tick, .int .i64 b.kind, .string b.person, .string b.item, .int .i64 b.value, .string b.text], .int .i64 300] W (fun r w' => r = .returned (.bool false) ∧ Ext W w') by rw [← hbb]; exact ref_Big b 300 W hwb)
  have Ma := Lib.hid (fun W : World => show Calls Tryd.prog 14 #[.agg #[.string a.src, .int .i64 a.num, .int .i64 a.tick, .int .i64 a.kind, .string a.person, .string a.item, .int .i64 a.value, .string a.text]] W (fun r w' => r = .returned (.bool true) ∧ Ext W w') by rw [← hma]; exact ref_May a W (evSm_of hba (by omega)))
  have Mb := Lib.hid (fun W : World => show Calls Tryd.prog 14 #[.agg #[.string b.src, .int .i64 b.num, .int .i64 b.tick, .int .i64 b.kind, .string b.person, .string b.item, .int .i64 b.value, .string b.text]] W (fun r w' => r = .returned (.bool false) ∧ Ext W w') by rw [← hmb]; exact ref_May b W (evSm_of hbb (by omega)))
  clear hv hwa hba hwb hbb hma hmb
  go_enter Tryd.func3, Tryd.ntmps3
  go_wp2_with (first | (go_at_call 12; refine (law_lives _ (Hv.out.ext (((Keeps.refl _ _).alloc _).alloc _))).mono ?_; rintro _ X ⟨rfl, hx1⟩; obtain ⟨gA, gB, hx0⟩ := two_boxes hx1; have a0 := blk_cell gA 0 rfl; have a1 := blk_cell gA 1 rfl; have a2 := blk_cell gA 2 rfl; have a3 := blk_cell gA 3 rfl; have a4 := blk_cell gA 4 rfl; have a5 := blk_cell gA 5 rfl; have a6 := blk_cell gA 6 rfl; have a7 := blk_cell gA 7 rfl; have b0 := blk_cell gB 0 rfl; have b1 := blk_cell gB 1 rfl; have b2 := blk_cell gB 2 rfl; have b3 := blk_cell gB 3 rfl; have b4 := blk_cell gB 4 rfl; have b5 := blk_cell gB 5 rfl; have b6 := blk_cell gB 6 rfl; have b7 := blk_cell gB 7 rfl; have sa := (Array.getElem?_eq_some_iff.1 gA).1; have sb := (Array.getElem?_eq_some_iff.1 gB).1; have HgA := Lib.hid gA; have HgB := Lib.hid gB; have Hx1 := Lib.hid hx0; clear hx1 hx0 gA gB) | (go_at_call 13; (with_reducible refine (Ga.out _).mono ?_); rintro _ Wa ⟨rfl, hx2⟩; have hra := ext_rule hx2; have Hya := Lib.hid hx2; clear hx2) | (go_at_call 13; (with_reducible refine (Gb.out _).mono ?_); rintro _ Wb ⟨rfl, hx2⟩; have Hyb := Lib.hid (Hya.out.trans hx2); have hrb := ext_rule Hyb.out; clear hx2) | (go_at_call 14; (with_reducible refine (Ma.out _).mono ?_); rintro _ Wc ⟨rfl, hx2⟩; have Hyc := Lib.hid (Hyb.out.trans hx2); have hrc := ext_rule Hyc.out; clear hx2) | (go_at_call 14; (with_reducible refine (Mb.out _).mono ?_); rintro _ Wd ⟨rfl, hx2⟩; have Hyd := Lib.hid (Hyc.out.trans hx2); have hrd := ext_rule Hyd.out; clear hx2))
  go_ret
  exact ⟨rfl, Hx1.out.trans Hyd.out⟩
end Go.Proofs.YtihdeidaekheoaaDoor
