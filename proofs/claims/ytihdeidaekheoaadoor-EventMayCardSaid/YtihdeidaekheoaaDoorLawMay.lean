/-
  What is proved here: the law EventMay returns true, whatever the event and the text, and leaves old memory as it was. Conditions: no text is longer than a text can be; the library's variables, and the names of the kinds, hold what their text lays.
-/
import Derived.Test.YtihdeidaekheoaaDoorEvLives
import Derived.Test.YtihdeidaekheoaaDoorEvBig
import Derived.Test.YtihdeidaekheoaaDoorEvMk
namespace Go.Proofs.YtihdeidaekheoaaDoor
open Go Go.RowKit Go.Proofs
attribute [local go_sem ↓] Go.wp_at_zero Go.wp_at_succ

def TagsIs (W : World) (l : List ByteArray) (n : Nat) (r : Ending) (w' : World) : Prop := ∃ A c, r = .returned (.slice A n c) ∧ Sl strR (fun _ => True) w' A n l ∧ Ext W w'
theorem tagsIs {W : World} {l : List ByteArray} {n : Nat} (hn : n = l.length) {r : Ending} {w' : World} (h : PartsPost l W r w') : TagsIs W l n r w' := by
  obtain ⟨A, c, h1, h2, h3⟩ := h
  subst hn
  exact ⟨A, c, h1, h2.sl (fun _ _ _ _ => trivial) (fun _ _ _ => trivial), h3⟩
theorem ext_drewN_eq {X W w4 : World} {m : Nat} (h : Ext X W) (e : w4 = W.drewN m) : Ext X w4 := by rw [e]; exact h.drewN m
set_option maxRecDepth 100000 in
set_option maxHeartbeats 8000000 in
theorem law_May_big (e : Ev) (s : ByteArray) (w : World) (hwf : EvWf e) (hv : Vars w) (hbig : bigE e 1000 = true) :
    Calls Tryd.prog 4 #[.agg #[.string e.src, .int .i64 e.num, .int .i64 e.tick, .int .i64 e.kind, .string e.person, .string e.item, .int .i64 e.value, .string e.text], .string s] w fun r w' => r = .returned (.bool true) ∧ Ext w w' := by
  have Hv := Lib.hid hv
  have Hwf := Lib.hid hwf
  clear hv hwf
  go_enter Tryd.func4, Tryd.ntmps4
  go_wp2_with (first | (go_at_call 12; refine (law_lives _ (Hv.out.ext ((Keeps.refl _ _).alloc _))).mono ?_; rintro _ w1 ⟨rfl, hx1⟩; have hg1 := hx1.blk (blk_new w _); have r0 := blk_cell hg1 0 rfl; have r1 := blk_cell hg1 1 rfl; have r2 := blk_cell hg1 2 rfl; have r3 := blk_cell hg1 3 rfl; have r4 := blk_cell hg1 4 rfl; have r5 := blk_cell hg1 5 rfl; have r6 := blk_cell hg1 6 rfl; have r7 := blk_cell hg1 7 rfl; have Hg1 := Lib.hid hg1; have Hx1 := Lib.hid (Keeps.trans ((Keeps.refl (fun _ => True) w).alloc _) hx1); clear hx1 hg1) | (go_at_call 13; refine (ref_Big e 1000 _ Hwf.out).mono ?_; rw [hbig]; rintro _ X ⟨rfl, hx2⟩; have HgX := Lib.hid (hx2.blk Hg1.out); have HxX := Lib.hid (Hx1.out.trans hx2); clear hx2))
  go_ret
  exact ⟨rfl, HxX.out⟩

set_option maxRecDepth 100000 in
set_option maxHeartbeats 8000000 in
theorem law_May_long (e : Ev) (s : ByteArray) (w : World) (hwf : EvWf e) (hs : s.size ≤ 140737488355328) (hv : Vars w) (hbig : bigE e 1000 = false) (hsz : 1000 < s.size) :
    Calls Tryd.prog 4 #[.agg #[.string e.src, .int .i64 e.num, .int .i64 e.tick, .int .i64 e.kind, .string e.person, .string e.item, .int .i64 e.value, .string e.text], .string s] w fun r w' => r = .returned (.bool true) ∧ Ext w w' := by
  have Hv := Lib.hid hv
  have Hwf := Lib.hid hwf
  clear hv hwf
  go_enter Tryd.func4, Tryd.ntmps4
  go_wp2_with (first | (go_at_call 12; refine (law_lives _ (Hv.out.ext ((Keeps.refl _ _).alloc _))).mono ?_; rintro _ w1 ⟨rfl, hx1⟩; have hg1 := hx1.blk (blk_new w _); have r0 := blk_cell hg1 0 rfl; have r1 := blk_cell hg1 1 rfl; have r2 := blk_cell hg1 2 rfl; have r3 := blk_cell hg1 3 rfl; have r4 := blk_cell hg1 4 rfl; have r5 := blk_cell hg1 5 rfl; have r6 := blk_cell hg1 6 rfl; have r7 := blk_cell hg1 7 rfl; have Hg1 := Lib.hid hg1; have Hx1 := Lib.hid (Keeps.trans ((Keeps.refl (fun _ => True) w).alloc _) hx1); clear hx1 hg1) | (go_at_call 13; refine (ref_Big e 1000 _ Hwf.out).mono ?_; rw [hbig]; rintro _ X ⟨rfl, hx2⟩; have HgX := Lib.hid (hx2.blk Hg1.out); have HxX := Lib.hid (Hx1.out.trans hx2); clear hx2))
  go_ret
  exact ⟨rfl, HxX.out⟩

set_option maxRecDepth 100000 in
set_option maxHeartbeats 8000000 in
theorem law_May_main (e : Ev) (s : ByteArray) (w : World) (hwf : EvWf e) (hv : Vars w) (hbig : bigE e 1000 = false) (hsz : ¬ 1000 < s.size) :
    Calls Tryd.prog 4 #[.agg #[.string e.src, .int .i64 e.num, .int .i64 e.tick, .int .i64 e.kind, .string e.person, .string e.item, .int .i64 e.value, .string e.text], .string s] w fun r w' => r = .returned (.bool true) ∧ Ext w w' := by
  have Hv := Lib.hid hv
  have Hwf := Lib.hid hwf
  clear hv hwf
  have Hsm := Lib.hid (evSm_of hbig (by omega))
  have Htl := Lib.hid (tagsB_len s)
  have Htl2 := Lib.hid (tagsB_len e.text)
  have hsm9 : s.size ≤ 999999 := by omega
  have htx9 := Hsm.out.text
  have hsmax : s.size ≤ maxLen := by unfold maxLen; omega
  have htmax : e.text.size ≤ maxLen := sm_max htx9
  obtain ⟨nb, hnb⟩ : ∃ x, x = nameB s := ⟨_, rfl⟩
  obtain ⟨mb, hmb⟩ : ∃ x, x = mayE e := ⟨_, rfl⟩
  obtain ⟨wo, hwo⟩ : ∃ x, x = worthE e := ⟨_, rfl⟩
  obtain ⟨k1, hk1⟩ : ∃ x, x = makerB s := ⟨_, rfl⟩
  obtain ⟨k2, hk2⟩ : ∃ x, x = makerB e.text := ⟨_, rfl⟩
  obtain ⟨l1, hl1⟩ : ∃ x, x = tagsB s := ⟨_, rfl⟩
  obtain ⟨l2, hl2⟩ : ∃ x, x = tagsB e.text := ⟨_, rfl⟩
  obtain ⟨n1, hn1⟩ : ∃ x, x = l1.length := ⟨_, rfl⟩
  obtain ⟨n2, hn2⟩ : ∃ x, x = l2.length := ⟨_, rfl⟩
  have hb1 : n1 ≤ 1000000 := by rw [hn1, hl1]; have := Htl.out; omega
  have hb2 : n2 ≤ 1000000 := by rw [hn2, hl2]; have := Htl2.out; omega
  have C1 := Lib.hid (fun W : World => show Calls Tryd.prog 17 #[.string s] W (fun r w' => r = .returned (.bool nb) ∧ Ext W w') by rw [hnb]; exact (event_Name s W hsmax).mono fun _ _ ⟨h1, h2⟩ => ⟨h1, h2 ▸ Keeps.refl _ _⟩)
  have C2 := Lib.hid (fun W : World => show Calls Tryd.prog 18 #[.string s] W (fun r w' => r = .returned (.bool nb) ∧ Ext W w') by rw [hnb]; exact (ref_Name s W hsmax).mono fun _ _ ⟨h1, h2⟩ => ⟨h1, h2 ▸ Keeps.refl _ _⟩)
  have C3 := Lib.hid (fun (W : World) (h : Mx W) => show Calls Tryd.prog 19 #[.agg #[.string e.src, .int .i64 e.num, .int .i64 e.tick, .int .i64 e.kind, .string e.person, .string e.item, .int .i64 e.value, .string e.text]] W (fun r w' => r = .returned (.bool mb) ∧ Ext W w') by rw [hmb]; exact ev_May e W Hsm.out h)
  have C4 := Lib.hid (fun (W : World) => show Calls Tryd.prog 14 #[.agg #[.string e.src, .int .i64 e.num, .int .i64 e.tick, .int .i64 e.kind, .string e.person, .string e.item, .int .i64 e.value, .string e.text]] W (fun r w' => r = .returned (.bool mb) ∧ Ext W w') by rw [hmb]; exact ref_May e W Hsm.out)
  have C5 := Lib.hid (fun (W : World) => show Calls Tryd.prog 20 #[.agg #[.string e.src, .int .i64 e.num, .int .i64 e.tick, .int .i64 e.kind, .string e.person, .string e.item, .int .i64 e.value, .string e.text]] W (fun r w' => r = .returned (.int .i64 wo) ∧ Ext W w') by rw [hwo]; exact ev_Worth e W)
  have C6 := Lib.hid (fun (W : World) => show Calls Tryd.prog 21 #[.agg #[.string e.src, .int .i64 e.num, .int .i64 e.tick, .int .i64 e.kind, .string e.person, .string e.item, .int .i64 e.value, .string e.text]] W (fun r w' => r = .returned (.int .i64 wo) ∧ Ext W w') by rw [hwo]; exact ref_Worth e W)
  have C7 := Lib.hid (fun (W : World) (h : Mx W) => show Calls Tryd.prog 22 #[.string s] W (fun r w' => r = .returned (.string k1) ∧ Ext W w') by rw [hk1]; exact ev_Maker s W hsm9 h)
  have C8 := Lib.hid (fun W : World => show Calls Tryd.prog 23 #[.string s] W (fun r w' => r = .returned (.string k1) ∧ Ext W w') by rw [hk1]; exact (ref_Maker s W hsmax).mono fun _ _ ⟨h1, h2⟩ => ⟨h1, h2 ▸ Keeps.refl _ _⟩)
  have C9 := Lib.hid (fun (W : World) (h : Mx W) => show Calls Tryd.prog 22 #[.string e.text] W (fun r w' => r = .returned (.string k2) ∧ Ext W w') by rw [hk2]; exact ev_Maker e.text W htx9 h)
  have C10 := Lib.hid (fun W : World => show Calls Tryd.prog 23 #[.string e.text] W (fun r w' => r = .returned (.string k2) ∧ Ext W w') by rw [hk2]; exact (ref_Maker e.text W htmax).mono fun _ _ ⟨h1, h2⟩ => ⟨h1, h2 ▸ Keeps.refl _ _⟩)
  have T1 := Lib.hid (fun (W : World) (h : Mx W) => show Calls Tryd.prog 25 #[.string s] W (TagsIs W l1 n1) from (ev_Tags s W hsm9 h).mono fun _ _ h => tagsIs hn1 (by rw [hl1]; exact h))
  have T2 := Lib.hid (fun (W : World) => show Calls Tryd.prog 26 #[.string s] W (TagsIs W l1 n1) from (ref_Tags s W (by omega)).mono fun _ _ h => tagsIs hn1 (by rw [hl1]; exact h))
  have T3 := Lib.hid (fun (W : World) (h : Mx W) => show Calls Tryd.prog 25 #[.string e.text] W (TagsIs W l2 n2) from (ev_Tags e.text W htx9 h).mono fun _ _ h => tagsIs hn2 (by rw [hl2]; exact h))
  have T4 := Lib.hid (fun (W : World) => show Calls Tryd.prog 26 #[.string e.text] W (TagsIs W l2 n2) from (ref_Tags e.text W (by omega)).mono fun _ _ h => tagsIs hn2 (by rw [hl2]; exact h))
  clear hnb hmb hwo hk1 hk2 hl1 hl2 hn1 hn2
  go_enter Tryd.func4, Tryd.ntmps4
  go_wp2_with (first | (go_at_call 12; refine (law_lives _ (Hv.out.ext ((Keeps.refl _ _).alloc _))).mono ?_; rintro _ w1 ⟨rfl, hx1⟩; have hg1 := hx1.blk (blk_new w _); have r0 := blk_cell hg1 0 rfl; have r1 := blk_cell hg1 1 rfl; have r2 := blk_cell hg1 2 rfl; have r3 := blk_cell hg1 3 rfl; have r4 := blk_cell hg1 4 rfl; have r5 := blk_cell hg1 5 rfl; have r6 := blk_cell hg1 6 rfl; have r7 := blk_cell hg1 7 rfl; have Hg1 := Lib.hid hg1; have Hx1 := Lib.hid (Keeps.trans ((Keeps.refl (fun _ => True) w).alloc _) hx1); clear hx1 hg1) | (go_at_call 13; refine (ref_Big e 1000 _ Hwf.out).mono ?_; rw [hbig]; rintro _ X ⟨rfl, hx2⟩; have HgX := Lib.hid (hx2.blk Hg1.out); have HxX := Lib.hid (Hx1.out.trans hx2); clear hx2))
  clear r0 r1 r2 r3 r4 r5 r6 r7
  have HmX := Lib.hid (Hv.out.mx.ext HxX.out)
  have wsz : w.heap.size < X.heap.size := (Array.getElem?_eq_some_iff.1 HgX.out).1
  have d0 := blk_cell HgX.out 0 rfl
  have d1 := blk_cell HgX.out 1 rfl
  have d2 := blk_cell HgX.out 2 rfl
  have d3 := blk_cell HgX.out 3 rfl
  have d4 := blk_cell HgX.out 4 rfl
  have d5 := blk_cell HgX.out 5 rfl
  have d6 := blk_cell HgX.out 6 rfl
  have d7 := blk_cell HgX.out 7 rfl
  go_region_held3 (fun w' => X.heap.size ≤ w'.heap.size ∧ ∀ p : Addr, p.block < X.heap.size → w'.cell? p = X.cell? p) (repeat (first | with_reducible assumption | with_reducible exact Old.refl _ | with_reducible refine Old.drew ?_ | with_reducible refine Old.alloc ?_ _)) (first
    | (go_at_call 17; (with_reducible refine (C1.out _).mono ?_); rintro _ w4 ⟨rfl, hx4⟩; have hy : Ext X w4 := Keeps.trans (by first | assumption | (with_reducible exact Keeps.refl _ _) | (with_reducible exact (Keeps.refl _ _).drew) | (with_reducible exact Keeps.drew (by assumption))) hx4; have hO : Old X w4 := Old.of_ext hy; clear hx4)
    | (go_at_call 18; (with_reducible refine (C2.out _).mono ?_); rintro _ w4 ⟨rfl, hx4⟩; have hy : Ext X w4 := Keeps.trans (by first | assumption | (with_reducible exact Keeps.refl _ _) | (with_reducible exact (Keeps.refl _ _).drew) | (with_reducible exact Keeps.drew (by assumption))) hx4; have hO : Old X w4 := Old.of_ext hy; clear hx4)
    | (go_at_call 19; (with_reducible refine (C3.out _ (HmX.out.ext (by first | assumption | (with_reducible exact Keeps.refl _ _) | (with_reducible exact (Keeps.refl _ _).drew) | (with_reducible exact Keeps.drew (by assumption))))).mono ?_); rintro _ w4 ⟨rfl, hx4⟩; have hy : Ext X w4 := Keeps.trans (by first | assumption | (with_reducible exact Keeps.refl _ _) | (with_reducible exact (Keeps.refl _ _).drew) | (with_reducible exact Keeps.drew (by assumption))) hx4; have hO : Old X w4 := Old.of_ext hy; clear hx4)
    | (go_at_call 14; (with_reducible refine (C4.out _).mono ?_); rintro _ w4 ⟨rfl, hx4⟩; have hy : Ext X w4 := Keeps.trans (by first | assumption | (with_reducible exact Keeps.refl _ _) | (with_reducible exact (Keeps.refl _ _).drew) | (with_reducible exact Keeps.drew (by assumption))) hx4; have hO : Old X w4 := Old.of_ext hy; clear hx4)
    | (go_at_call 20; (with_reducible refine (C5.out _).mono ?_); rintro _ w4 ⟨rfl, hx4⟩; have hy : Ext X w4 := Keeps.trans (by first | assumption | (with_reducible exact Keeps.refl _ _) | (with_reducible exact (Keeps.refl _ _).drew) | (with_reducible exact Keeps.drew (by assumption))) hx4; have hO : Old X w4 := Old.of_ext hy; clear hx4)
    | (go_at_call 21; (with_reducible refine (C6.out _).mono ?_); rintro _ w4 ⟨rfl, hx4⟩; have hy : Ext X w4 := Keeps.trans (by first | assumption | (with_reducible exact Keeps.refl _ _) | (with_reducible exact (Keeps.refl _ _).drew) | (with_reducible exact Keeps.drew (by assumption))) hx4; have hO : Old X w4 := Old.of_ext hy; clear hx4)
    | (go_at_call 22; (with_reducible refine (C7.out _ (HmX.out.ext (by first | assumption | (with_reducible exact Keeps.refl _ _) | (with_reducible exact (Keeps.refl _ _).drew) | (with_reducible exact Keeps.drew (by assumption))))).mono ?_); rintro _ w4 ⟨rfl, hx4⟩; have hy : Ext X w4 := Keeps.trans (by first | assumption | (with_reducible exact Keeps.refl _ _) | (with_reducible exact (Keeps.refl _ _).drew) | (with_reducible exact Keeps.drew (by assumption))) hx4; have hO : Old X w4 := Old.of_ext hy; clear hx4)
    | (go_at_call 23; (with_reducible refine (C8.out _).mono ?_); rintro _ w4 ⟨rfl, hx4⟩; have hy : Ext X w4 := Keeps.trans (by first | assumption | (with_reducible exact Keeps.refl _ _) | (with_reducible exact (Keeps.refl _ _).drew) | (with_reducible exact Keeps.drew (by assumption))) hx4; have hO : Old X w4 := Old.of_ext hy; clear hx4)
    | (go_at_call 22; (with_reducible refine (C9.out _ (HmX.out.ext (by first | assumption | (with_reducible exact Keeps.refl _ _) | (with_reducible exact (Keeps.refl _ _).drew) | (with_reducible exact Keeps.drew (by assumption))))).mono ?_); rintro _ w4 ⟨rfl, hx4⟩; have hy : Ext X w4 := Keeps.trans (by first | assumption | (with_reducible exact Keeps.refl _ _) | (with_reducible exact (Keeps.refl _ _).drew) | (with_reducible exact Keeps.drew (by assumption))) hx4; have hO : Old X w4 := Old.of_ext hy; clear hx4)
    | (go_at_call 23; (with_reducible refine (C10.out _).mono ?_); rintro _ w4 ⟨rfl, hx4⟩; have hy : Ext X w4 := Keeps.trans (by first | assumption | (with_reducible exact Keeps.refl _ _) | (with_reducible exact (Keeps.refl _ _).drew) | (with_reducible exact Keeps.drew (by assumption))) hx4; have hO : Old X w4 := Old.of_ext hy; clear hx4)
    | (go_at_call 25; (with_reducible refine (T1.out _ (HmX.out.ext (by first | assumption | (with_reducible exact Keeps.refl _ _) | (with_reducible exact (Keeps.refl _ _).drew) | (with_reducible exact Keeps.drew (by assumption))))).mono ?_); rintro _ w4 ⟨A1, c1, rfl, hs1, hx4⟩; have hy : Ext X w4 := Keeps.trans (by first | assumption | (with_reducible exact Keeps.refl _ _) | (with_reducible exact (Keeps.refl _ _).drew) | (with_reducible exact Keeps.drew (by assumption))) hx4; have hO : Old X w4 := Old.of_ext hy; have Hs1 := Lib.hid hs1; clear hx4 hs1)
    | (go_at_call 26; (with_reducible refine (T2.out _).mono ?_); rintro _ w4 ⟨A2, c2, rfl, hs2, hx4⟩; have hy : Ext X w4 := Keeps.trans (by first | assumption | (with_reducible exact Keeps.refl _ _) | (with_reducible exact (Keeps.refl _ _).drew) | (with_reducible exact Keeps.drew (by assumption))) hx4; have hO : Old X w4 := Old.of_ext hy; have Hs2 := Lib.hid (And.intro (Hs1.out.ext hx4) hs2); clear hx4 hs2)
    | (go_at_call 25; (with_reducible refine (T3.out _ (HmX.out.ext (by first | assumption | (with_reducible exact Keeps.refl _ _) | (with_reducible exact (Keeps.refl _ _).drew) | (with_reducible exact Keeps.drew (by assumption))))).mono ?_); rintro _ w4 ⟨A3, c3, rfl, hs3, hx4⟩; have hy : Ext X w4 := Keeps.trans (by first | assumption | (with_reducible exact Keeps.refl _ _) | (with_reducible exact (Keeps.refl _ _).drew) | (with_reducible exact Keeps.drew (by assumption))) hx4; have hO : Old X w4 := Old.of_ext hy; have Hs3 := Lib.hid hs3; clear hx4 hs3)
    | (go_at_call 26; (with_reducible refine (T4.out _).mono ?_); rintro _ w4 ⟨A4, c4, rfl, hs4, hx4⟩; have hy : Ext X w4 := Keeps.trans (by first | assumption | (with_reducible exact Keeps.refl _ _) | (with_reducible exact (Keeps.refl _ _).drew) | (with_reducible exact Keeps.drew (by assumption))) hx4; have hO : Old X w4 := Old.of_ext hy; have Hs4 := Lib.hid (And.intro (Hs3.out.ext hx4) hs4); clear hx4 hs4)
    | (go_at_call 24; (with_reducible refine (texts_yes _ _ _ _ _ l1 (fun _ => True) (fun _ => True) _ Hs2.out.1 Hs2.out.2 hb1).mono ?_); rintro _ w4 ⟨rfl, m4, hw4⟩; have hy : Ext X w4 := ext_drewN_eq (by first | assumption | (with_reducible exact Keeps.refl _ _) | (with_reducible exact (Keeps.refl _ _).drew) | (with_reducible exact Keeps.drew (by assumption))) hw4; have hO : Old X w4 := Old.of_ext hy; clear hw4)
    | (go_at_call 24; (with_reducible refine (texts_yes _ _ _ _ _ l2 (fun _ => True) (fun _ => True) _ Hs4.out.1 Hs4.out.2 hb2).mono ?_); rintro _ w4 ⟨rfl, m4, hw4⟩; have hy : Ext X w4 := ext_drewN_eq (by first | assumption | (with_reducible exact Keeps.refl _ _) | (with_reducible exact (Keeps.refl _ _).drew) | (with_reducible exact Keeps.drew (by assumption))) hw4; have hO : Old X w4 := Old.of_ext hy; clear hw4))
  go_wp2_with fail
  go_ret
  exact ⟨rfl, HxX.out.trans hy⟩
theorem law_May (e : Ev) (s : ByteArray) (w : World) (hwf : EvWf e) (hs : s.size ≤ 140737488355328) (hv : Vars w) :
    Calls Tryd.prog 4 #[.agg #[.string e.src, .int .i64 e.num, .int .i64 e.tick, .int .i64 e.kind, .string e.person, .string e.item, .int .i64 e.value, .string e.text], .string s] w fun r w' => r = .returned (.bool true) ∧ Ext w w' := by
  cases hbig : bigE e 1000
  · by_cases hsz : 1000 < s.size
    · exact law_May_long e s w hwf hs hv hbig hsz
    · exact law_May_main e s w hwf hv hbig hsz
  · exact law_May_big e s w hwf hv hbig
end Go.Proofs.YtihdeidaekheoaaDoor
