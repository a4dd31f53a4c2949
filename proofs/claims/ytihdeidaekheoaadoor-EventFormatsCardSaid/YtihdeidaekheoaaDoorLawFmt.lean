/-
  What is proved here: the law EventFormats returns true, whatever the event, and leaves old memory as it was. Conditions: no text is longer than a text can be; the library's variables, and the names of the kinds, hold what their text lays.
-/
import Derived.Test.YtihdeidaekheoaaDoorEvParP
import Derived.Test.YtihdeidaekheoaaDoorEvRFmt
import Derived.Test.YtihdeidaekheoaaDoorLawBytes
namespace Go.Proofs.YtihdeidaekheoaaDoor
open Go Go.RowKit Go.Proofs
attribute [local go_sem ↓] Go.wp_at_zero Go.wp_at_succ
attribute [local go_sem high] ev_eql ev_neq
theorem words_size {e : Ev} (h : mayE e = true) : ∀ x ∈ (wordsE e).map dotB, x.size ≤ 999999 := by
  have hF := mayF h
  intro x hx
  obtain ⟨z, hz, rfl⟩ := List.mem_map.1 hx
  have hd := dotB_size z
  have hi : ∀ n : Int, (itoaB n).size = (Lib.itoa n).length := fun n => by show (Lib.itoa n).toArray.size = _; simp
  have a1 := itoa_len e.num hF.num00 hF.num1
  have a2 := itoa_len e.tick hF.tick0 hF.tick1
  have a3 := itoa_len e.value hF.value0 hF.value11
  have a4 : (kindsB.getD e.kind.toNat ⟨#[]⟩).size ≤ 10 := kindsB_size _ (List.mem_of_getElem? (kinds_at (by have := hF.kind0; have := hF.kind1; omega)))
  have a5 : e.src.size ≤ 24 := (nameB_size hF.src).2
  have a6 : e.person.size ≤ 24 := hF.psize
  have a7 : e.item.size ≤ 24 := hF.isize
  have a8 : e.text.size ≤ 224 := hF.tsize
  simp only [wordsE, List.mem_cons, List.not_mem_nil, or_false] at hz
  rcases hz with rfl | rfl | rfl | rfl | rfl | rfl | rfl | rfl <;> (try rw [hi] at hd) <;> omega
theorem fmtE_size {e : Ev} (h : mayE e = true) : (fmtE e).size ≤ 999999 := by
  have hF := mayF h
  have hi : ∀ n : Int, (itoaB n).size = (Lib.itoa n).length := fun n => by show (Lib.itoa n).toArray.size = _; simp
  have a1 := itoa_len e.num hF.num00 hF.num1
  have a2 := itoa_len e.tick hF.tick0 hF.tick1
  have a3 := itoa_len e.value hF.value0 hF.value11
  have a4 : (kindsB.getD e.kind.toNat ⟨#[]⟩).size ≤ 10 := kindsB_size _ (List.mem_of_getElem? (kinds_at (by have := hF.kind0; have := hF.kind1; omega)))
  have a5 : e.src.size ≤ 24 := (nameB_size hF.src).2
  have a6 : e.person.size ≤ 24 := hF.psize
  have a7 : e.item.size ≤ 24 := hF.isize
  have a8 : e.text.size ≤ 224 := hF.tsize
  have h9 := join_len (((wordsE e).map dotB).map (·.data.toList)) [32] 2000 (fun x hx => by
    obtain ⟨y, hy, rfl⟩ := List.mem_map.1 hx
    obtain ⟨z, hz, rfl⟩ := List.mem_map.1 hy
    have hd := dotB_size z
    have hdl : (dotB z).data.toList.length = (dotB z).size := by simp
    rw [hdl]
    simp only [wordsE, List.mem_cons, List.not_mem_nil, or_false] at hz
    rcases hz with rfl | rfl | rfl | rfl | rfl | rfl | rfl | rfl <;> (try rw [hi] at hd) <;> omega)
  have h8 : (fmtE e).size = (Lib.join (((wordsE e).map dotB).map (·.data.toList)) [32]).length := by show (Lib.join _ _).toArray.size = _; simp
  rw [h8]
  refine Nat.le_trans h9 ?_
  simp [wordsE]
theorem ev_Parse_fmt (e : Ev) (h : mayE e = true) (w : World) (hv : Vars w) :
    Calls Tryd.prog 27 #[.string (fmtE e)] w fun r w' => r = .returned (.tuple #[.agg #[.string e.src, .int .i64 e.num, .int .i64 e.tick, .int .i64 e.kind, .string e.person, .string e.item, .int .i64 e.value, .string e.text], .int .i64 0]) ∧ Ext w w' := by
  have hF := mayF h
  have hk : e.kind.toNat < 15 := by have := hF.kind0; have := hF.kind1; omega
  have h1 := ev_Parse_8 (fmtE e) (dotB e.src) (dotB (itoaB e.num)) (dotB (itoaB e.tick)) (dotB (kindsB.getD e.kind.toNat ⟨#[]⟩)) (dotB e.person) (dotB e.item) (dotB (itoaB e.value)) (dotB e.text) w (fmtE_size h) hv (fmt_parts h) (words_size h)
  have hne : (⟨#[]⟩ : ByteArray) ≠ fmtE e := fun e9 => by
    have h2 := fmt_parts h
    rw [← e9] at h2
    have := congrArg List.length h2
    simp [partsL, wordsE] at this
  have h2 := parP_of (s := fmtE e) (evP_fmt h) (by rw [dot_itoa hF.num00]; exact (digOk_itoa hF.num00 hF.num1).1) (by rw [dot_itoa hF.tick0]; exact (digOk_itoa hF.tick0 hF.tick1).1) (by rw [dot_itoa hF.value0]; exact (digOk_itoa hF.value0 hF.value11).1) hne
  rw [h2, show fmtF e = fmtE e by unfold fmtF; rw [h]; rfl, beqB_self] at h1
  exact h1
set_option maxRecDepth 100000 in
set_option maxHeartbeats 8000000 in
theorem law_Formats (e : Ev) (w : World) (hwf : EvWf e) (hv : Vars w) :
    Calls Tryd.prog 5 #[.agg #[.string e.src, .int .i64 e.num, .int .i64 e.tick, .int .i64 e.kind, .string e.person, .string e.item, .int .i64 e.value, .string e.text]] w fun r w' => r = .returned (.bool true) ∧ Ext w w' := by
  have Hv := Lib.hid hv
  cases hb : bigE e 1000
  · have GB := Lib.hid (fun W : World => show Calls Tryd.prog 13 #[.agg #[.string e.src, .int .i64 e.num, .int .i64 e.tick, .int .i64 e.kind, .string e.person, .string e.item, .int .i64 e.value, .string e.text], .int .i64 1000] W (fun r w' => r = .returned (.bool false) ∧ Ext W w') by rw [← hb]; exact ref_Big e 1000 W hwf)
    have Hsm := Lib.hid (evSm_of hb (by omega))
    cases hmay : mayE e
    · have HM := Lib.hid (fun W : World => show Calls Tryd.prog 14 #[.agg #[.string e.src, .int .i64 e.num, .int .i64 e.tick, .int .i64 e.kind, .string e.person, .string e.item, .int .i64 e.value, .string e.text]] W (fun r w' => r = .returned (.bool false) ∧ Ext W w') by rw [← hmay]; exact ref_May e W Hsm.out)
      have HF := Lib.hid (fun (W : World) (h : Ext w W) => ev_Format_no e W Hsm.out (Hv.out.mx.ext h) hmay)
      clear hv hwf hb hmay
      go_enter Tryd.func5, Tryd.ntmps5
      go_wp2_with (first | (go_at_call 12; refine (law_lives _ (Hv.out.ext ((Keeps.refl _ _).alloc _))).mono ?_; rintro _ w1 ⟨rfl, hx1⟩; have hg1 := hx1.blk (blk_new w _); have r0 := blk_cell hg1 0 rfl; have r1 := blk_cell hg1 1 rfl; have r2 := blk_cell hg1 2 rfl; have r3 := blk_cell hg1 3 rfl; have r4 := blk_cell hg1 4 rfl; have r5 := blk_cell hg1 5 rfl; have r6 := blk_cell hg1 6 rfl; have r7 := blk_cell hg1 7 rfl; have Hg1 := Lib.hid hg1; have Hx1 := Lib.hid (Keeps.trans ((Keeps.refl (fun _ => True) w).alloc _) hx1); clear hx1 hg1) | (go_at_call 13; (with_reducible refine (GB.out _).mono ?_); rintro _ w2 ⟨rfl, hx2⟩; have hg2 := hx2.blk Hg1.out; clear r0 r1 r2 r3 r4 r5 r6 r7; have r0 := blk_cell hg2 0 rfl; have r1 := blk_cell hg2 1 rfl; have r2 := blk_cell hg2 2 rfl; have r3 := blk_cell hg2 3 rfl; have r4 := blk_cell hg2 4 rfl; have r5 := blk_cell hg2 5 rfl; have r6 := blk_cell hg2 6 rfl; have r7 := blk_cell hg2 7 rfl; have Hg2 := Lib.hid hg2; have Hx2 := Lib.hid (Hx1.out.trans hx2); clear hx2 hg2) | (go_at_call 16; (with_reducible refine (HF.out _ Hx2.out).mono ?_); rintro _ w3 ⟨rfl, hx3⟩; have hg3 := hx3.blk Hg2.out; clear r0 r1 r2 r3 r4 r5 r6 r7; have r0 := blk_cell hg3 0 rfl; have r1 := blk_cell hg3 1 rfl; have r2 := blk_cell hg3 2 rfl; have r3 := blk_cell hg3 3 rfl; have r4 := blk_cell hg3 4 rfl; have r5 := blk_cell hg3 5 rfl; have r6 := blk_cell hg3 6 rfl; have r7 := blk_cell hg3 7 rfl; have Hg3 := Lib.hid hg3; have Hx3 := Lib.hid (Hx2.out.trans hx3); clear hx3 hg3) | (go_at_call 14; (with_reducible refine (HM.out _).mono ?_); rintro _ w4 ⟨rfl, hx4⟩; have hg4 := hx4.blk Hg3.out; clear r0 r1 r2 r3 r4 r5 r6 r7; have r0 := blk_cell hg4 0 rfl; have r1 := blk_cell hg4 1 rfl; have r2 := blk_cell hg4 2 rfl; have r3 := blk_cell hg4 3 rfl; have r4 := blk_cell hg4 4 rfl; have r5 := blk_cell hg4 5 rfl; have r6 := blk_cell hg4 6 rfl; have r7 := blk_cell hg4 7 rfl; have Hg4 := Lib.hid hg4; have Hx4 := Lib.hid (Hx3.out.trans hx4); clear hx4 hg4))
      go_ret
      exact ⟨rfl, Hx4.out⟩
    · have HM := Lib.hid (fun W : World => show Calls Tryd.prog 14 #[.agg #[.string e.src, .int .i64 e.num, .int .i64 e.tick, .int .i64 e.kind, .string e.person, .string e.item, .int .i64 e.value, .string e.text]] W (fun r w' => r = .returned (.bool true) ∧ Ext W w') by rw [← hmay]; exact ref_May e W Hsm.out)
      have HF := Lib.hid (fun (W : World) (h : Ext w W) => ev_Format_yes e W Hsm.out (Hv.out.ext h) hmay)
      have HP := Lib.hid (fun (W : World) (h : Ext w W) => ev_Parse_fmt e hmay W (Hv.out.ext h))
      have HR := Lib.hid (fun (W : World) => ref_Format e W hmay)
      have hee := eqE_refl e
      generalize fmtE e = F at HF HP HR
      clear hv hwf hb hmay
      go_enter Tryd.func5, Tryd.ntmps5
      go_wp2_with (first | (go_at_call 12; refine (law_lives _ (Hv.out.ext ((Keeps.refl _ _).alloc _))).mono ?_; rintro _ w1 ⟨rfl, hx1⟩; have hg1 := hx1.blk (blk_new w _); have r0 := blk_cell hg1 0 rfl; have r1 := blk_cell hg1 1 rfl; have r2 := blk_cell hg1 2 rfl; have r3 := blk_cell hg1 3 rfl; have r4 := blk_cell hg1 4 rfl; have r5 := blk_cell hg1 5 rfl; have r6 := blk_cell hg1 6 rfl; have r7 := blk_cell hg1 7 rfl; have Hg1 := Lib.hid hg1; have Hx1 := Lib.hid (Keeps.trans ((Keeps.refl (fun _ => True) w).alloc _) hx1); clear hx1 hg1) | (go_at_call 13; (with_reducible refine (GB.out _).mono ?_); rintro _ w2 ⟨rfl, hx2⟩; have hg2 := hx2.blk Hg1.out; clear r0 r1 r2 r3 r4 r5 r6 r7; have r0 := blk_cell hg2 0 rfl; have r1 := blk_cell hg2 1 rfl; have r2 := blk_cell hg2 2 rfl; have r3 := blk_cell hg2 3 rfl; have r4 := blk_cell hg2 4 rfl; have r5 := blk_cell hg2 5 rfl; have r6 := blk_cell hg2 6 rfl; have r7 := blk_cell hg2 7 rfl; have Hg2 := Lib.hid hg2; have Hx2 := Lib.hid (Hx1.out.trans hx2); clear hx2 hg2) | (go_at_call 16; (with_reducible refine (HF.out _ Hx2.out).mono ?_); rintro _ w3 ⟨rfl, hx3⟩; have hg3 := hx3.blk Hg2.out; clear r0 r1 r2 r3 r4 r5 r6 r7; have r0 := blk_cell hg3 0 rfl; have r1 := blk_cell hg3 1 rfl; have r2 := blk_cell hg3 2 rfl; have r3 := blk_cell hg3 3 rfl; have r4 := blk_cell hg3 4 rfl; have r5 := blk_cell hg3 5 rfl; have r6 := blk_cell hg3 6 rfl; have r7 := blk_cell hg3 7 rfl; have Hg3 := Lib.hid hg3; have Hx3 := Lib.hid (Hx2.out.trans hx3); clear hx3 hg3) | (go_at_call 14; (with_reducible refine (HM.out _).mono ?_); rintro _ w4 ⟨rfl, hx4⟩; have hg4 := hx4.blk Hg3.out; clear r0 r1 r2 r3 r4 r5 r6 r7; have r0 := blk_cell hg4 0 rfl; have r1 := blk_cell hg4 1 rfl; have r2 := blk_cell hg4 2 rfl; have r3 := blk_cell hg4 3 rfl; have r4 := blk_cell hg4 4 rfl; have r5 := blk_cell hg4 5 rfl; have r6 := blk_cell hg4 6 rfl; have r7 := blk_cell hg4 7 rfl; have Hg4 := Lib.hid hg4; have Hx4 := Lib.hid (Hx3.out.trans hx4); clear hx4 hg4) | (go_at_call 27; (with_reducible refine (HP.out _ Hx4.out).mono ?_); rintro _ w5 ⟨rfl, hx5⟩; have hg5 := hx5.blk Hg4.out; have hl5 : w.heap.size < w5.heap.size := (Array.getElem?_eq_some_iff.1 hg5).1; clear r0 r1 r2 r3 r4 r5 r6 r7; have r0 := blk_cell hg5 0 rfl; have r1 := blk_cell hg5 1 rfl; have r2 := blk_cell hg5 2 rfl; have r3 := blk_cell hg5 3 rfl; have r4 := blk_cell hg5 4 rfl; have r5 := blk_cell hg5 5 rfl; have r6 := blk_cell hg5 6 rfl; have r7 := blk_cell hg5 7 rfl; have Hg5 := Lib.hid hg5; have Hx5 := Lib.hid (Hx4.out.trans hx5); clear hx5 hg5) | (go_at_call 28; (with_reducible refine (HR.out _).mono ?_); rintro _ w6 ⟨rfl, hx6⟩; have hg6 := Ext.blk (Keeps.trans ((Keeps.refl (fun _ => True) w5).alloc _) hx6) Hg5.out; have hd6 := hx6.blk (blk_new w5 _); clear r0 r1 r2 r3 r4 r5 r6 r7; have r0 := blk_cell hg6 0 rfl; have r1 := blk_cell hg6 1 rfl; have r2 := blk_cell hg6 2 rfl; have r3 := blk_cell hg6 3 rfl; have r4 := blk_cell hg6 4 rfl; have r5 := blk_cell hg6 5 rfl; have r6 := blk_cell hg6 6 rfl; have r7 := blk_cell hg6 7 rfl; have d0 := blk_cell hd6 0 rfl; have d1 := blk_cell hd6 1 rfl; have d2 := blk_cell hd6 2 rfl; have d3 := blk_cell hd6 3 rfl; have d4 := blk_cell hd6 4 rfl; have d5 := blk_cell hd6 5 rfl; have d6 := blk_cell hd6 6 rfl; have d7 := blk_cell hd6 7 rfl; have Hx6 := Lib.hid (Keeps.trans (Hx5.out.alloc _) hx6); clear hx6 hg6 hd6))
      go_ret
      exact ⟨rfl, Hx6.out⟩
  · have GB := Lib.hid (fun W : World => show Calls Tryd.prog 13 #[.agg #[.string e.src, .int .i64 e.num, .int .i64 e.tick, .int .i64 e.kind, .string e.person, .string e.item, .int .i64 e.value, .string e.text], .int .i64 1000] W (fun r w' => r = .returned (.bool true) ∧ Ext W w') by rw [← hb]; exact ref_Big e 1000 W hwf)
    clear hv hwf hb
    go_enter Tryd.func5, Tryd.ntmps5
    go_wp2_with (first | (go_at_call 12; refine (law_lives _ (Hv.out.ext ((Keeps.refl _ _).alloc _))).mono ?_; rintro _ w1 ⟨rfl, hx1⟩; have hg1 := hx1.blk (blk_new w _); have r0 := blk_cell hg1 0 rfl; have r1 := blk_cell hg1 1 rfl; have r2 := blk_cell hg1 2 rfl; have r3 := blk_cell hg1 3 rfl; have r4 := blk_cell hg1 4 rfl; have r5 := blk_cell hg1 5 rfl; have r6 := blk_cell hg1 6 rfl; have r7 := blk_cell hg1 7 rfl; have Hg1 := Lib.hid hg1; have Hx1 := Lib.hid (Keeps.trans ((Keeps.refl (fun _ => True) w).alloc _) hx1); clear hx1 hg1) | (go_at_call 13; (with_reducible refine (GB.out _).mono ?_); rintro _ w2 ⟨rfl, hx2⟩; have hg2 := hx2.blk Hg1.out; clear r0 r1 r2 r3 r4 r5 r6 r7; have r0 := blk_cell hg2 0 rfl; have r1 := blk_cell hg2 1 rfl; have r2 := blk_cell hg2 2 rfl; have r3 := blk_cell hg2 3 rfl; have r4 := blk_cell hg2 4 rfl; have r5 := blk_cell hg2 5 rfl; have r6 := blk_cell hg2 6 rfl; have r7 := blk_cell hg2 7 rfl; have Hg2 := Lib.hid hg2; have Hx2 := Lib.hid (Hx1.out.trans hx2); clear hx2 hg2))
    go_ret
    exact ⟨rfl, Hx2.out⟩
end Go.Proofs.YtihdeidaekheoaaDoor
