/-
  What is proved here: the law EventSorts returns true, whatever the events, and leaves old memory as it was. Conditions: no text is longer than a text can be; the library's variables, and the names of the kinds, hold what their text lays.
-/
import Derived.Test.YtmhkgfoimkonoaaDoorSoS13
import Derived.Test.YtmhkgfoimkonoaaDoorSoS14
import Derived.Test.YtmhkgfoimkonoaaDoorEvLives
import Derived.Test.YtmhkgfoimkonoaaDoorEvBig
namespace Go.Proofs.YtmhkgfoimkonoaaDoor
open Go Go.RowKit Go.Proofs
attribute [local go_sem ↓] Go.wp_at_zero Go.wp_at_succ
theorem sort_sorted (l : List Ev) : sortL lessE (sortL lessE l) = sortL lessE l := (sortL_eq lessE_swo (sortL_ok lessE_swo l).1 (Cls.refl _)).symm
theorem sort_len (l : List Ev) : (sortL lessE l).length = l.length := (sortL_ok lessE_swo l).2.len
theorem sameL_self (l : List Ev) : sameL l l = true := by unfold sameL; simp
set_option maxRecDepth 100000 in
set_option maxHeartbeats 8000000 in
theorem law_Sorts (A : Option Addr) (n c : Nat) (l : List Ev) (ok : Nat → Prop) (w : World) (hs : Sl evR ok w A n l) (hn : n ≤ 140737488355328) (hwf : ∀ e ∈ l, EvWf e) (hv : Vars w) :
    Calls Tryd.prog 3 #[.slice A n c] w fun r w' => r = .returned (.bool true) ∧ Ext w w' := by
  have Hs := Lib.hid hs
  have Hl := Lib.hid hs.1
  have Hv := Lib.hid hv
  have hnm : n ≤ maxLen := by unfold maxLen; omega
  by_cases h60 : 60 < n
  · clear hs hv hwf
    go_enter Tryd.func3, Tryd.ntmps3
    go_wp2_with (go_at_call 10; refine (law_lives _ Hv.out).mono ?_; rintro _ w1 ⟨rfl, hx1⟩; have Hx1 := Lib.hid hx1; clear hx1)
    go_ret
    exact ⟨rfl, Hx1.out⟩
  cases hbig : l.any (fun e => bigE e 200)
  case true =>
    have GS := Lib.hid (fun (W : World) (h : Sl evR ok W A n l) => show Calls Tryd.prog 11 #[.slice A n c, .int .i64 200] W (fun r w' => r = .returned (.bool true) ∧ Ext W w') by rw [← hbig]; exact ref_Some A n c l 200 ok W h hnm hwf)
    clear hs hv hwf hbig
    go_enter Tryd.func3, Tryd.ntmps3
    go_wp2_with (first | (go_at_call 10; refine (law_lives _ Hv.out).mono ?_; rintro _ w1 ⟨rfl, hx1⟩; have Hx1 := Lib.hid hx1; clear hx1) | (go_at_call 11; refine (GS.out _ (Hs.out.ext Hx1.out)).mono ?_; rintro _ w2 ⟨rfl, hx2⟩; have Hx2 := Lib.hid (Hx1.out.trans hx2); clear hx2))
    go_ret
    exact ⟨rfl, Hx2.out⟩
  have GS := Lib.hid (fun (W : World) (h : Sl evR ok W A n l) => show Calls Tryd.prog 11 #[.slice A n c, .int .i64 200] W (fun r w' => r = .returned (.bool false) ∧ Ext W w') by rw [← hbig]; exact ref_Some A n c l 200 ok W h hnm hwf)
  obtain ⟨i0, hi0, hz0, hz1, hz2⟩ := info_part3 info_apiEv
  clear hs hv hwf hbig
  go_enter Tryd.func3, Tryd.ntmps3
  go_wp2_with (first | (go_at_call 10; refine (law_lives _ Hv.out).mono ?_; rintro _ w1 ⟨rfl, hx1⟩; have Hx1 := Lib.hid hx1; clear hx1) | (go_at_call 11; refine (GS.out _ (Hs.out.ext Hx1.out)).mono ?_; rintro _ w2 ⟨rfl, hx2⟩; have Hx2 := Lib.hid (Hx1.out.trans hx2); clear hx2) | (at_builtin; refine wpList_append_Own (ok := fun _ => True) (R := evR) _ rfl (.tmp 16) (.tmp 17) 22 rfl 30 i0 _ 96 w2.heap.size Tryd.underlying22 hi0 hz0 hz1 hz2 rfl (by decide) rfl (Own.new_nil (blk_new _ _) (Nat.le_refl _)) _ n c l rfl (Sl.flat_src evR_flat (Hs.out.ext (Hx2.out.alloc _))) (by omega) (by decide) (by simp) ?_; intro A3 c3 w3 hown3 hg3 hat3; have Hx3 := Lib.hid (show Ext w w3 from Keeps.grown (Keeps.alloc Hx2.out _) hg3 (fun g hg hl => by have h9 : some w2.heap.size = some g := hg; injection h9 with h9; have := Hx2.out.size; omega)); simp only [Nat.zero_add, List.nil_append] at hown3; have Hown3 := Lib.hid hown3; clear hown3 hg3 hat3))
  obtain ⟨d, hd⟩ : ∃ d, d = sortL lessE l := ⟨_, rfl⟩
  have Hdl := Lib.hid (show d.length = n by rw [hd, sort_len]; exact Hl.out)
  have Hdd := Lib.hid (show sortL lessE d = d by rw [hd, sort_sorted])
  have Hd := Lib.hid hd
  clear hd
  have C1 := Lib.hid (show Calls Tryd.prog 12 #[.slice A n c] w3 (fun e w' => ∃ A', e = .returned (.slice A' n n) ∧ EvsAt w3.heap.size w' A' n d ∧ Ext w3 w') by rw [Hd.out]; exact ev_Sort A n c l ok w3 (Hs.out.ext Hx3.out) (by omega))
  refine C1.out.mono ?_
  rintro _ w4 ⟨A4, rfl, hev4, hx4⟩
  have Hev4 := Lib.hid hev4
  have Hx4 := Lib.hid hx4
  clear hev4 hx4
  have Hown4 := Lib.hid (Hown3.out.evSl.ext Hx4.out)
  have hcap3 := Hown3.out.cap
  go_wp2_with fail
  have C2 := Lib.hid (show Calls Tryd.prog 13 #[.slice A3 n c3] w4 (fun e w' => ∃ B cb, e = .returned (.slice B n cb) ∧ n ≤ cb ∧ EvsAt w4.heap.size w' B n d ∧ Ext w4 w') by rw [Hd.out]; exact ref_Sort A3 n c3 l _ w4 Hown4.out (by omega))
  refine C2.out.mono ?_
  rintro _ w5 ⟨B5, c5, rfl, hc5, hev5, hx5⟩
  have Hev5 := Lib.hid hev5
  have Hx5 := Lib.hid hx5
  clear hev5 hx5 C1 C2
  have tt := sameL_self d
  have tl := sameL_self l
  have S1 := Lib.hid (fun (W : World) (h : Ext w5 W) => show Calls Tryd.prog 14 #[.slice A4 n n, .slice B5 n c5] W (fun e w' => e = .returned (.bool true) ∧ Ext W w') by rw [← tt]; exact ref_SameL A4 B5 n n n c5 d d _ _ W ((Hev4.out.ext (Hx5.out.trans h)).sl) ((Hev5.out.ext h).sl) (by omega) (by omega))
  go_wp2_with fail
  refine (S1.out w5 (Keeps.refl _ _)).mono ?_
  rintro _ w6 ⟨rfl, hx6⟩
  have Hx6 := Lib.hid hx6
  clear hx6
  go_wp2_with fail
  have C3 := Lib.hid (show Calls Tryd.prog 12 #[.slice A4 n n] w6 (fun e w' => ∃ A', e = .returned (.slice A' n n) ∧ EvsAt w6.heap.size w' A' n d ∧ Ext w6 w') by have h9 := ev_Sort A4 n n d _ w6 ((Hev4.out.ext (Hx5.out.trans Hx6.out)).sl) (by omega); rw [Hdd.out] at h9; exact h9)
  refine C3.out.mono ?_
  rintro _ w7 ⟨A7, rfl, hev7, hx7⟩
  have Hev7 := Lib.hid hev7
  have Hx7 := Lib.hid (Hx6.out.trans hx7)
  clear hev7 hx7 C3
  go_wp2_with fail
  refine (show Calls Tryd.prog 14 #[.slice A7 n n, .slice B5 n c5] w7 (fun e w' => e = .returned (.bool true) ∧ Ext w7 w') by rw [← tt]; exact ref_SameL A7 B5 n n n c5 d d _ _ w7 Hev7.out.sl ((Hev5.out.ext Hx7.out).sl) (by omega) (by omega)).mono ?_
  rintro _ w8 ⟨rfl, hx8⟩
  have Hx58 := Lib.hid (Hx7.out.trans hx8)
  have Hx8 := Lib.hid (Hx4.out.trans (Hx5.out.trans Hx58.out))
  clear hx8
  have S2 := Lib.hid (fun (W : World) (h1 : Sl evR (fun k => k < w3.heap.size) W A n l) (h2 : Sl evR (fun k => k < w3.heap.size) W A3 n l) => show Calls Tryd.prog 14 #[.slice A n c, .slice A3 n c3] W (fun e w' => e = .returned (.bool true) ∧ Ext W w') by rw [← tl]; exact ref_SameL A A3 n n c c3 l l _ _ W h1 h2 (by omega) (by omega))
  have Hsa := Lib.hid (show Sl evR (fun k => k < w3.heap.size) w3 A n l from (Hs.out.ext Hx3.out).mono (fun k hk _ => hk))
  have Hsb := Lib.hid (show Sl evR (fun k => k < w3.heap.size) w3 A3 n l from Hown3.out.evSl.mono (fun k hk _ => hk))
  go_wp2_with fail
  refine (S2.out w8 (Hsa.out.ext Hx8.out) (Hsb.out.ext Hx8.out)).mono ?_
  rintro _ w9 ⟨rfl, hx9⟩
  have Hx9 := Lib.hid (Hx8.out.trans hx9)
  have Hev9 := Lib.hid (show 0 < n → ∃ g C, A4 = some ⟨g, 0, none⟩ ∧ w3.heap.size ≤ g ∧ w9.heap[g]? = some (.cells C 30) ∧ n * 8 ≤ C.size from fun h0 => by
    obtain ⟨h1, h2⟩ := Hev4.out.ext (Hx5.out.trans (Hx58.out.trans hx9))
    rcases h2 with ⟨h2, _⟩ | ⟨g, S, h2, h3, C, h4, h5, h6⟩
    · omega
    · refine ⟨g, C, h2, h3, h4, ?_⟩
      have h7 := h6 (n - 1) d[n - 1] (List.getElem?_eq_getElem (by omega)) 7 _ rfl
      have h8 := (Array.getElem?_eq_some_iff.1 h7).1
      omega)
  clear hx9
  go_wp2_with fail
  go_loopw [6] (fun i wr => ∃ k : Nat, k ≤ n ∧ i = .int .i64 k ∧ (0 < n → ∃ g C, A4 = some ⟨g, 0, none⟩ ∧ w3.heap.size ≤ g ∧ wr.heap[g]? = some (.cells C 30) ∧ n * 8 ≤ C.size) ∧ Keeps (fun q => q < w3.heap.size) w3 wr) (fun i _ => n - (intOf i).toNat)
  case atStart => exact ⟨0, Nat.zero_le _, rfl, Hev9.out, Ext.keeps Hx9.out _⟩
  case round =>
    obtain ⟨k, hk, rfl, hrow, hkeep⟩ := hrel
    have Hkeep := Lib.hid hkeep
    by_cases hlt : k < n
    · obtain ⟨g, C, rfl, hg, hblk, hC⟩ := hrow (by omega)
      have hfree := blk_free hblk
      have hc2 := blk_cell hblk (k * 8 + 2) (Array.getElem?_eq_getElem (by omega))
      have Hblk := Lib.hid hblk
      have i0' : (0 : Int) ≤ (k : Int) := by omega
      have i1' : (k : Int) < (n : Int) := by omega
      have hgl := (Array.getElem?_eq_some_iff.1 hblk).1
      clear hblk hrow hkeep
      go_wp2_with fail
      go_roundw
      case rel => exact ⟨k + 1, by omega, by go_num, fun _ => ⟨g, _, rfl, hg, blk_set Hblk.out _ _, by simpa using hC⟩, Hkeep.out.setCell (fun h1 h2 => by simp at h2; omega) _⟩
      case measure => simp [intOf]; omega
    · obtain rfl : k = n := by omega
      clear hrow hkeep
      go_wp2_with fail
      refine (S2.out wr (Hsa.out.keep Hkeep.out) (Hsb.out.keep Hkeep.out)).mono ?_
      rintro _ w10 ⟨rfl, hx10⟩
      have HxE := Lib.hid (show Ext w w10 from (Keeps.then_ Hx3.out Hkeep.out (fun i hi _ => by have := Hx3.out.size; omega)).trans hx10)
      clear hx10
      go_wp2_with fail
      go_ret
      exact ⟨rfl, HxE.out⟩
end Go.Proofs.YtmhkgfoimkonoaaDoor
