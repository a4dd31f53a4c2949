/-
  What is proved here: the law EventParses returns true, whatever the text, and leaves old memory as it was. Conditions: no text is longer than a text can be; the library's variables, and the names of the kinds, hold what their text lays.
-/
import Derived.Test.YtihdeidaekheoaaDoorEvParQ
import Derived.Test.YtihdeidaekheoaaDoorLawBytes
namespace Go.Proofs.YtihdeidaekheoaaDoor
open Go Go.RowKit Go.Proofs
attribute [local go_sem ↓] Go.wp_at_zero Go.wp_at_succ
attribute [local go_sem high] ev_eql ev_neq
theorem both_Parse (s : ByteArray) (hs : s.size ≤ 999999) :
    (∃ e, mayE e = true ∧ fmtE e = s ∧ (∀ w, Vars w → Calls Tryd.prog 27 #[.string s] w (ParPost w e 0)) ∧ ∀ w, Calls Tryd.prog 29 #[.string s] w (ParQost w e true)) ∨
    ((∀ w, Vars w → Calls Tryd.prog 27 #[.string s] w (ParPost w ev0 2)) ∧ ∀ w, Calls Tryd.prog 29 #[.string s] w (ParQost w ev0 false)) := by
  by_cases h8 : (partsL 32 s.data.toList).length = 8
  · obtain ⟨w0, w1, w2, w3, w4, w5, w6, w7, hl⟩ := eight (l := (partsL 32 s.data.toList).map bts) (by rw [List.length_map, h8])
    have hsz : ∀ x ∈ [w0, w1, w2, w3, w4, w5, w6, w7], x.size ≤ 999999 := by
      rw [← hl]
      intro x hx
      obtain ⟨p, hp, rfl⟩ := List.mem_map.1 hx
      have h1 := parts_sizes hp
      have h2 : s.data.toList.length = s.size := by simp
      rw [bts_size]; omega
    have hP := fun w hv => ev_Parse_8 s w0 w1 w2 w3 w4 w5 w6 w7 w hs hv hl hsz
    have hQ := fun w => ref_Parse_8 s w0 w1 w2 w3 w4 w5 w6 w7 w hs hl hsz
    rcases par_same hl with ⟨e, h1, h2, h3, h4⟩ | ⟨h1, h2⟩
    · rw [h2] at hP
      rw [h1] at hQ
      exact .inl ⟨e, h3, h4, hP, hQ⟩
    · rw [h2] at hP
      rw [h1] at hQ
      exact .inr ⟨hP, hQ⟩
  · exact .inr ⟨fun w hv => ev_Parse_len s w hs hv h8, fun w => ref_Parse_len s w hs h8⟩
set_option maxRecDepth 100000 in
set_option maxHeartbeats 8000000 in
theorem law_Parses (s : ByteArray) (w : World) (hs : s.size ≤ 140737488355328) (hv : Vars w) :
    Calls Tryd.prog 6 #[.string s] w fun r w' => r = .returned (.bool true) ∧ Ext w w' := by
  have Hv := Lib.hid hv
  by_cases hb : 1000 < s.size
  · clear hv
    go_enter Tryd.func6, Tryd.ntmps6
    go_wp2_with (go_at_call 12; refine (law_lives _ Hv.out).mono ?_; rintro _ w1 ⟨rfl, hx1⟩; have Hx1 := Lib.hid hx1; clear hx1)
    go_ret
    exact ⟨rfl, Hx1.out⟩
  rcases both_Parse s (by omega) with ⟨e, hmay, hfm, hP, hQ⟩ | ⟨hP, hQ⟩
  · have HP := Lib.hid (fun (W : World) (h : Vars W) => show Calls Tryd.prog 27 #[.string s] W (fun r w' => r = .returned (.tuple #[.agg #[.string e.src, .int .i64 e.num, .int .i64 e.tick, .int .i64 e.kind, .string e.person, .string e.item, .int .i64 e.value, .string e.text], .int .i64 0]) ∧ Ext W w') from hP W h)
    have HQ := Lib.hid (fun (W : World) => show Calls Tryd.prog 29 #[.string s] W (fun r w' => r = .returned (.tuple #[.agg #[.string e.src, .int .i64 e.num, .int .i64 e.tick, .int .i64 e.kind, .string e.person, .string e.item, .int .i64 e.value, .string e.text], .bool true]) ∧ Ext W w') from hQ W)
    have hF := mayF hmay
    have Hsm := Lib.hid (show EvSm e from ⟨by have := (nameB_size hF.src).2; omega, by have := hF.psize; omega, by have := hF.isize; omega, by have := hF.tsize; omega⟩)
    have HF := Lib.hid (fun (W : World) (h : Ext w W) => show Calls Tryd.prog 16 #[.agg #[.string e.src, .int .i64 e.num, .int .i64 e.tick, .int .i64 e.kind, .string e.person, .string e.item, .int .i64 e.value, .string e.text]] W (fun r w' => r = .returned (.string s) ∧ Ext W w') by rw [← hfm]; exact ev_Format_yes e W Hsm.out (Hv.out.ext h) hmay)
    have hee := eqE_refl e
    clear hv hP hQ hF hmay hfm
    go_enter Tryd.func6, Tryd.ntmps6
    go_wp2_with (first | (go_at_call 12; refine (law_lives _ Hv.out).mono ?_; rintro _ w1 ⟨rfl, hx1⟩; have Hx1 := Lib.hid hx1; clear hx1) | (go_at_call 27; (with_reducible refine (HP.out _ (Hv.out.ext Hx1.out)).mono ?_); rintro _ w2 ⟨rfl, hx2⟩; have Hx2 := Lib.hid (Hx1.out.trans hx2); clear hx2) | (go_at_call 29; (with_reducible refine (HQ.out _).mono ?_); rintro _ w3 ⟨rfl, hx3⟩; have hg3 := hx3.blk (blk_new w2 _); have hl3 : w2.heap.size < w3.heap.size := (Array.getElem?_eq_some_iff.1 hg3).1; have d0 := blk_cell hg3 0 rfl; have d1 := blk_cell hg3 1 rfl; have d2 := blk_cell hg3 2 rfl; have d3 := blk_cell hg3 3 rfl; have d4 := blk_cell hg3 4 rfl; have d5 := blk_cell hg3 5 rfl; have d6 := blk_cell hg3 6 rfl; have d7 := blk_cell hg3 7 rfl; have Hg3 := Lib.hid hg3; have Hx3 := Lib.hid (Keeps.trans (Hx2.out.alloc _) hx3); clear hx3 hg3) | (go_at_call 16; (with_reducible refine (HF.out _ (Hx3.out.alloc _)).mono ?_); rintro _ w4 ⟨rfl, hx4⟩; have Hx4 := Lib.hid (Keeps.trans (Hx3.out.alloc _) hx4); clear hx4))
    go_ret
    exact ⟨rfl, Hx4.out⟩
  · have HP := Lib.hid (fun (W : World) (h : Vars W) => show Calls Tryd.prog 27 #[.string s] W (fun r w' => r = .returned (.tuple #[.agg #[.string ⟨#[]⟩, .int .i64 0, .int .i64 0, .int .i64 0, .string ⟨#[]⟩, .string ⟨#[]⟩, .int .i64 0, .string ⟨#[]⟩], .int .i64 2]) ∧ Ext W w') from hP W h)
    have HQ := Lib.hid (fun (W : World) => show Calls Tryd.prog 29 #[.string s] W (fun r w' => r = .returned (.tuple #[.agg #[.string ⟨#[]⟩, .int .i64 0, .int .i64 0, .int .i64 0, .string ⟨#[]⟩, .string ⟨#[]⟩, .int .i64 0, .string ⟨#[]⟩], .bool false]) ∧ Ext W w') from hQ W)
    clear hv hP hQ
    go_enter Tryd.func6, Tryd.ntmps6
    go_wp2_with (first | (go_at_call 12; refine (law_lives _ Hv.out).mono ?_; rintro _ w1 ⟨rfl, hx1⟩; have Hx1 := Lib.hid hx1; clear hx1) | (go_at_call 27; (with_reducible refine (HP.out _ (Hv.out.ext Hx1.out)).mono ?_); rintro _ w2 ⟨rfl, hx2⟩; have Hx2 := Lib.hid (Hx1.out.trans hx2); clear hx2) | (go_at_call 29; (with_reducible refine (HQ.out _).mono ?_); rintro _ w3 ⟨rfl, hx3⟩; have hg3 := hx3.blk (blk_new w2 _); have hl3 : w2.heap.size < w3.heap.size := (Array.getElem?_eq_some_iff.1 hg3).1; have d0 := blk_cell hg3 0 rfl; have d1 := blk_cell hg3 1 rfl; have d2 := blk_cell hg3 2 rfl; have d3 := blk_cell hg3 3 rfl; have d4 := blk_cell hg3 4 rfl; have d5 := blk_cell hg3 5 rfl; have d6 := blk_cell hg3 6 rfl; have d7 := blk_cell hg3 7 rfl; have Hg3 := Lib.hid hg3; have Hx3 := Lib.hid (Keeps.trans (Hx2.out.alloc _) hx3); clear hx3 hg3))
    go_ret
    exact ⟨rfl, Hx3.out.alloc _⟩
end Go.Proofs.YtihdeidaekheoaaDoor
