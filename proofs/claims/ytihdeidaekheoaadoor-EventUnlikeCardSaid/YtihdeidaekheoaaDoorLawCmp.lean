/-
  What is proved here: the law EventCompares returns true, whatever the events, and leaves old memory as it was. Conditions: no text is longer than a text can be; the library's variables, and the names of the kinds, hold what their text lays.
-/
import Derived.Test.YtihdeidaekheoaaDoorEvLives
import Derived.Test.YtihdeidaekheoaaDoorEvBig
import Derived.Test.YtihdeidaekheoaaDoorEvCmp
import Derived.Test.YtihdeidaekheoaaDoorQuiet
namespace Go.Proofs.YtihdeidaekheoaaDoor
open Go Go.RowKit Go.Proofs
attribute [local go_sem ↓] Go.wp_at_zero Go.wp_at_succ
theorem three_boxes {w X : World} {A B C : Obj} (h : Ext (((w.alloc A).alloc B).alloc C) X) : X.heap[w.heap.size]? = some A ∧ X.heap[w.heap.size + 1]? = some B ∧ X.heap[w.heap.size + 1 + 1]? = some C ∧ Ext w X := by
  refine ⟨h.blk (blk_old (blk_old (blk_new w A) B) C), h.blk (blk_old ?_ C), h.blk ?_, Keeps.trans ((((Keeps.refl _ w).alloc A).alloc B).alloc C) h⟩
  · have := blk_new (w.alloc A) B
    simpa using this
  · have := blk_new ((w.alloc A).alloc B) C
    simpa using this
theorem ext_rule {X W : World} (h : Ext X W) : ∀ b o, b < X.heap.size → W.cell? ⟨b, o, none⟩ = X.cell? ⟨b, o, none⟩ := fun b o hb => h.cell (p := ⟨b, o, none⟩) hb trivial

set_option maxRecDepth 100000 in
set_option maxHeartbeats 8000000 in
theorem law_Cmp_b1 (a b c : Ev) (w : World) (hwa : EvWf a) (hv : Vars w) (hba : bigE a 1000 = true) :
    Calls Tryd.prog 7 #[.agg #[.string a.src, .int .i64 a.num, .int .i64 a.tick, .int .i64 a.kind, .string a.person, .string a.item, .int .i64 a.value, .string a.text], .agg #[.string b.src, .int .i64 b.num, .int .i64 b.tick, .int .i64 b.kind, .string b.person, .string b.item, .int .i64 b.value, .string b.text], .agg #[.string c.src, .int .i64 c.num, .int .i64 c.tick, .int .i64 c.kind, .string c.person, .string c.item, .int .i64 c.value, .string c.text]] w fun r w' => r = .returned (.bool true) ∧ Ext w w' := by
  have Hv := Lib.hid hv
  clear hv
  have Ga := Lib.hid (fun W : World => show Calls Tryd.prog 13 #[.agg #[.string a.src, .int .i64 a.num, .int .i64 a.tick, .int .i64 a.kind, .string a.person, .string a.item, .int .i64 a.value, .string a.text], .int .i64 1000] W (fun r w' => r = .returned (.bool true) ∧ Ext W w') by rw [← hba]; exact ref_Big a 1000 W hwa)
  clear hwa hba
  go_enter Tryd.func7, Tryd.ntmps7
  go_wp2_with (first | (go_at_call 12; refine (law_lives _ (Hv.out.ext ((((Keeps.refl _ _).alloc _).alloc _).alloc _))).mono ?_; rintro _ X ⟨rfl, hx1⟩; obtain ⟨gA, gB, gC, hx0⟩ := three_boxes hx1; have a0 := blk_cell gA 0 rfl; have a1 := blk_cell gA 1 rfl; have a2 := blk_cell gA 2 rfl; have a3 := blk_cell gA 3 rfl; have a4 := blk_cell gA 4 rfl; have a5 := blk_cell gA 5 rfl; have a6 := blk_cell gA 6 rfl; have a7 := blk_cell gA 7 rfl; have sa := (Array.getElem?_eq_some_iff.1 gA).1; have b0 := blk_cell gB 0 rfl; have b1 := blk_cell gB 1 rfl; have b2 := blk_cell gB 2 rfl; have b3 := blk_cell gB 3 rfl; have b4 := blk_cell gB 4 rfl; have b5 := blk_cell gB 5 rfl; have b6 := blk_cell gB 6 rfl; have b7 := blk_cell gB 7 rfl; have sb := (Array.getElem?_eq_some_iff.1 gB).1; have c0 := blk_cell gC 0 rfl; have c1 := blk_cell gC 1 rfl; have c2 := blk_cell gC 2 rfl; have c3 := blk_cell gC 3 rfl; have c4 := blk_cell gC 4 rfl; have c5 := blk_cell gC 5 rfl; have c6 := blk_cell gC 6 rfl; have c7 := blk_cell gC 7 rfl; have sc := (Array.getElem?_eq_some_iff.1 gC).1; have Hx1 := Lib.hid hx0; clear hx1 hx0 gA gB gC) | (go_at_call 13; (with_reducible refine (Ga.out _).mono ?_); rintro _ Wa ⟨rfl, hx2⟩; have hra := ext_rule hx2; have Hya := Lib.hid hx2; clear hx2))
  go_ret
  exact ⟨rfl, Hx1.out.trans Hya.out⟩
set_option maxRecDepth 100000 in
set_option maxHeartbeats 8000000 in
theorem law_Cmp_b2 (a b c : Ev) (w : World) (hwa : EvWf a) (hwb : EvWf b) (hv : Vars w) (hba : bigE a 1000 = false) (hbb : bigE b 1000 = true) :
    Calls Tryd.prog 7 #[.agg #[.string a.src, .int .i64 a.num, .int .i64 a.tick, .int .i64 a.kind, .string a.person, .string a.item, .int .i64 a.value, .string a.text], .agg #[.string b.src, .int .i64 b.num, .int .i64 b.tick, .int .i64 b.kind, .string b.person, .string b.item, .int .i64 b.value, .string b.text], .agg #[.string c.src, .int .i64 c.num, .int .i64 c.tick, .int .i64 c.kind, .string c.person, .string c.item, .int .i64 c.value, .string c.text]] w fun r w' => r = .returned (.bool true) ∧ Ext w w' := by
  have Hv := Lib.hid hv
  clear hv
  have Ga := Lib.hid (fun W : World => show Calls Tryd.prog 13 #[.agg #[.string a.src, .int .i64 a.num, .int .i64 a.tick, .int .i64 a.kind, .string a.person, .string a.item, .int .i64 a.value, .string a.text], .int .i64 1000] W (fun r w' => r = .returned (.bool false) ∧ Ext W w') by rw [← hba]; exact ref_Big a 1000 W hwa)
  have Gb := Lib.hid (fun W : World => show Calls Tryd.prog 13 #[.agg #[.string b.src, .int .i64 b.num, .int .i64 b.tick, .int .i64 b.kind, .string b.person, .string b.item, .int .i64 b.value, .string b.text], .int .i64 1000] W (fun r w' => r = .returned (.bool true) ∧ Ext W w') by rw [← hbb]; exact ref_Big b 1000 W hwb)
  clear hwa hba hwb hbb
  go_enter Tryd.func7, Tryd.ntmps7
  go_wp2_with (first | (go_at_call 12; refine (law_lives _ (Hv.out.ext ((((Keeps.refl _ _).alloc _).alloc _).alloc _))).mono ?_; rintro _ X ⟨rfl, hx1⟩; obtain ⟨gA, gB, gC, hx0⟩ := three_boxes hx1; have a0 := blk_cell gA 0 rfl; have a1 := blk_cell gA 1 rfl; have a2 := blk_cell gA 2 rfl; have a3 := blk_cell gA 3 rfl; have a4 := blk_cell gA 4 rfl; have a5 := blk_cell gA 5 rfl; have a6 := blk_cell gA 6 rfl; have a7 := blk_cell gA 7 rfl; have sa := (Array.getElem?_eq_some_iff.1 gA).1; have b0 := blk_cell gB 0 rfl; have b1 := blk_cell gB 1 rfl; have b2 := blk_cell gB 2 rfl; have b3 := blk_cell gB 3 rfl; have b4 := blk_cell gB 4 rfl; have b5 := blk_cell gB 5 rfl; have b6 := blk_cell gB 6 rfl; have b7 := blk_cell gB 7 rfl; have sb := (Array.getElem?_eq_some_iff.1 gB).1; have c0 := blk_cell gC 0 rfl; have c1 := blk_cell gC 1 rfl; have c2 := blk_cell gC 2 rfl; have c3 := blk_cell gC 3 rfl; have c4 := blk_cell gC 4 rfl; have c5 := blk_cell gC 5 rfl; have c6 := blk_cell gC 6 rfl; have c7 := blk_cell gC 7 rfl; have sc := (Array.getElem?_eq_some_iff.1 gC).1; have Hx1 := Lib.hid hx0; clear hx1 hx0 gA gB gC) | (go_at_call 13; (with_reducible refine (Ga.out _).mono ?_); rintro _ Wa ⟨rfl, hx2⟩; have hra := ext_rule hx2; have Hya := Lib.hid hx2; clear hx2) | (go_at_call 13; (with_reducible refine (Gb.out _).mono ?_); rintro _ Wb ⟨rfl, hx2⟩; have Hyb := Lib.hid (Hya.out.trans hx2); have hrb := ext_rule Hyb.out; clear hx2))
  go_ret
  exact ⟨rfl, Hx1.out.trans Hyb.out⟩
set_option maxRecDepth 100000 in
set_option maxHeartbeats 8000000 in
theorem law_Cmp_b3 (a b c : Ev) (w : World) (hwa : EvWf a) (hwb : EvWf b) (hwc : EvWf c) (hv : Vars w) (hba : bigE a 1000 = false) (hbb : bigE b 1000 = false) (hbc : bigE c 1000 = true) :
    Calls Tryd.prog 7 #[.agg #[.string a.src, .int .i64 a.num, .int .i64 a.tick, .int .i64 a.kind, .string a.person, .string a.item, .int .i64 a.value, .string a.text], .agg #[.string b.src, .int .i64 b.num, .int .i64 b.tick, .int .i64 b.kind, .string b.person, .string b.item, .int .i64 b.value, .string b.text], .agg #[.string c.src, .int .i64 c.num, .int .i64 c.tick, .int .i64 c.kind, .string c.person, .string c.item, .int .i64 c.value, .string c.text]] w fun r w' => r = .returned (.bool true) ∧ Ext w w' := by
  have Hv := Lib.hid hv
  clear hv
  have Ga := Lib.hid (fun W : World => show Calls Tryd.prog 13 #[.agg #[.string a.src, .int .i64 a.num, .int .i64 a.tick, .int .i64 a.kind, .string a.person, .string a.item, .int .i64 a.value, .string a.text], .int .i64 1000] W (fun r w' => r = .returned (.bool false) ∧ Ext W w') by rw [← hba]; exact ref_Big a 1000 W hwa)
  have Gb := Lib.hid (fun W : World => show Calls Tryd.prog 13 #[.agg #[.string b.src, .int .i64 b.num, .int .i64 b.tick, .int .i64 b.kind, .string b.person, .string b.item, .int .i64 b.value, .string b.text], .int .i64 1000] W (fun r w' => r = .returned (.bool false) ∧ Ext W w') by rw [← hbb]; exact ref_Big b 1000 W hwb)
  have Gc := Lib.hid (fun W : World => show Calls Tryd.prog 13 #[.agg #[.string c.src, .int .i64 c.num, .int .i64 c.tick, .int .i64 c.kind, .string c.person, .string c.item, .int .i64 c.value, .string c.text], .int .i64 1000] W (fun r w' => r = .returned (.bool true) ∧ Ext W w') by rw [← hbc]; exact ref_Big c 1000 W hwc)
  clear hwa hba hwb hbb hwc hbc
  go_enter Tryd.func7, Tryd.ntmps7
  go_wp2_with (first | (go_at_call 12; refine (law_lives _ (Hv.out.ext ((((Keeps.refl _ _).alloc _).alloc _).alloc _))).mono ?_; rintro _ X ⟨rfl, hx1⟩; obtain ⟨gA, gB, gC, hx0⟩ := three_boxes hx1; have a0 := blk_cell gA 0 rfl; have a1 := blk_cell gA 1 rfl; have a2 := blk_cell gA 2 rfl; have a3 := blk_cell gA 3 rfl; have a4 := blk_cell gA 4 rfl; have a5 := blk_cell gA 5 rfl; have a6 := blk_cell gA 6 rfl; have a7 := blk_cell gA 7 rfl; have sa := (Array.getElem?_eq_some_iff.1 gA).1; have b0 := blk_cell gB 0 rfl; have b1 := blk_cell gB 1 rfl; have b2 := blk_cell gB 2 rfl; have b3 := blk_cell gB 3 rfl; have b4 := blk_cell gB 4 rfl; have b5 := blk_cell gB 5 rfl; have b6 := blk_cell gB 6 rfl; have b7 := blk_cell gB 7 rfl; have sb := (Array.getElem?_eq_some_iff.1 gB).1; have c0 := blk_cell gC 0 rfl; have c1 := blk_cell gC 1 rfl; have c2 := blk_cell gC 2 rfl; have c3 := blk_cell gC 3 rfl; have c4 := blk_cell gC 4 rfl; have c5 := blk_cell gC 5 rfl; have c6 := blk_cell gC 6 rfl; have c7 := blk_cell gC 7 rfl; have sc := (Array.getElem?_eq_some_iff.1 gC).1; have Hx1 := Lib.hid hx0; clear hx1 hx0 gA gB gC) | (go_at_call 13; (with_reducible refine (Ga.out _).mono ?_); rintro _ Wa ⟨rfl, hx2⟩; have hra := ext_rule hx2; have Hya := Lib.hid hx2; clear hx2) | (go_at_call 13; (with_reducible refine (Gb.out _).mono ?_); rintro _ Wb ⟨rfl, hx2⟩; have Hyb := Lib.hid (Hya.out.trans hx2); have hrb := ext_rule Hyb.out; clear hx2) | (go_at_call 13; (with_reducible refine (Gc.out _).mono ?_); rintro _ Wc ⟨rfl, hx2⟩; have Hyc := Lib.hid (Hyb.out.trans hx2); have hrc := ext_rule Hyc.out; clear hx2))
  go_ret
  exact ⟨rfl, Hx1.out.trans Hyc.out⟩
end Go.Proofs.YtihdeidaekheoaaDoor
