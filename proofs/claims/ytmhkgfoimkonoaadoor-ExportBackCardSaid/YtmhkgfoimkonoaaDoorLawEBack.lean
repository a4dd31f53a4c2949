/-
  What is proved here: the law ExportBack returns true, whatever the events, and leaves old memory as it was. Conditions: no text is longer than a text can be; the library's variables, and the names of the kinds, hold what their text lays.
-/
import Derived.Test.YtmhkgfoimkonoaaDoorExL
namespace Go.Proofs.YtmhkgfoimkonoaaDoor
open Go Go.RowKit Go.Proofs
attribute [local go_sem ↓] Go.wp_at_zero Go.wp_at_succ
theorem sameL_self (l : List Ev) : sameL l l = true := by unfold sameL; simp
set_option maxRecDepth 100000 in
set_option maxHeartbeats 8000000 in
theorem law_EBack (A : Option Addr) (n c : Nat) (l : List Ev) (ok : Nat → Prop) (w : World) (hs : Sl evR ok w A n l) (hn : n ≤ 140737488355328) (hwf : ∀ e ∈ l, EvWf e) (hv : Vars w) :
    Calls Tryd.prog 4 #[.slice A n c] w fun r w' => r = .returned (.bool true) ∧ Ext w w' := by
  have Hs := Lib.hid hs
  have Hl := Lib.hid hs.1
  have Hv := Lib.hid hv
  cases hhv : heavyE l
  case true =>
    have GH := Lib.hid (fun (W : World) (h : Sl evR ok W A n l) => show Calls Tryd.prog 16 #[.slice A n c] W (fun r w' => r = .returned (.bool true) ∧ Ext W w') by rw [← hhv]; exact law_heavy A n c l ok W h hn hwf)
    clear hs hv hwf hhv
    go_enter Tryd.func4, Tryd.ntmps4
    go_wp2_with (first | (go_at_call 15; refine (law42_lives _ Hv.out).mono ?_; rintro _ w1 ⟨rfl, hx1⟩; have Hx1 := Lib.hid hx1; clear hx1) | (go_at_call 16; refine (GH.out _ (Hs.out.ext Hx1.out)).mono ?_; rintro _ w2 ⟨rfl, hx2⟩; have Hx2 := Lib.hid (Hx1.out.trans hx2); clear hx2))
    go_ret
    exact ⟨rfl, Hx2.out⟩
  have GH := Lib.hid (fun (W : World) (h : Sl evR ok W A n l) => show Calls Tryd.prog 16 #[.slice A n c] W (fun r w' => r = .returned (.bool false) ∧ Ext W w') by rw [← hhv]; exact law_heavy A n c l ok W h hn hwf)
  obtain ⟨h30, hsm⟩ := heavy_no hhv
  rw [hs.1] at h30
  have Hsm := Lib.hid hsm
  clear hs hv hwf hhv hsm
  have HT := Lib.hid (text_size (l := l) (by rw [Hl.out]; omega))
  have HI := Lib.hid (imp_all l)
  have HA := Lib.hid (show textB (allE (allE l)) = textB (allE l) by rw [allE_self])
  have HL := Lib.hid (allE_len l)
  obtain ⟨T, hT⟩ : ∃ T, T = textB (allE l) := ⟨_, rfl⟩
  rw [← hT] at HT HI HA
  have H1 := Lib.hid (fun (W : World) (h : Ext w W) => show Calls Tryd.prog 17 #[.slice A n c] W (fun r w' => r = .returned (.string T) ∧ Ext W w') by rw [hT]; exact ex_All A n c l ok W (Hs.out.ext h) (by omega) Hsm.out (Hv.out.ext h))
  clear hT
  go_enter Tryd.func4, Tryd.ntmps4
  go_wp2_with (first | (go_at_call 15; refine (law42_lives _ Hv.out).mono ?_; rintro _ w1 ⟨rfl, hx1⟩; have Hx1 := Lib.hid hx1; clear hx1) | (go_at_call 16; refine (GH.out _ (Hs.out.ext Hx1.out)).mono ?_; rintro _ w2 ⟨rfl, hx2⟩; have Hx2 := Lib.hid (Hx1.out.trans hx2); clear hx2))
  refine (H1.out w2 Hx2.out).mono ?_
  rintro _ w3 ⟨rfl, hx3⟩
  have Hx3 := Lib.hid (Hx2.out.trans hx3)
  have H2 := Lib.hid (ex_Import T w3 HT.out (Hv.out.ext Hx3.out))
  unfold ImPost at H2
  rw [HI.out] at H2
  clear hx3
  go_wp2_with fail
  refine H2.out.mono ?_
  rintro _ w4 ⟨B, k, cb, rfl, hown4, hx4⟩
  have Hx4 := Lib.hid (Hx3.out.trans hx4)
  have Hk := Lib.hid hown4.1
  have Hs4 := Lib.hid hown4.evSl
  have hk : k ≤ 30 := by have h1 : (allE l).length = k := Hk.out; have h2 := HL.out; have h3 := Hl.out; omega
  clear hx4 hown4 H2
  go_wp2_with fail
  refine (rf_Right A n c l ok w4 (Hs.out.ext Hx4.out) (by omega) Hsm.out).mono ?_
  rintro _ w5 ⟨B5, m5, c5, rfl, hm5, hown5, hx5⟩
  have Hx5 := Lib.hid (Hx4.out.trans hx5)
  have Hx45 := Lib.hid hx5
  have H5 := Lib.hid (rf_Join B5 m5 c5 _ _ w5 hown5.evSl (by omega) (filter_may l))
  clear hx5 hown5
  go_wp2_with fail
  refine H5.out.mono ?_
  rintro _ w6 ⟨B6, m6, c6, rfl, hm6, _, hev6, hx6⟩
  have Hx46 := Lib.hid (Hx45.out.trans hx6)
  have Hs6 := Lib.hid (show Sl evR _ w6 B6 m6 (allE l) from hev6.sl)
  clear hx6 hev6 H5 Hx45
  go_wp2_with fail
  refine (ref_SameL B B6 k m6 cb c6 (allE l) (allE l) _ _ w6 (Hs4.out.ext Hx46.out) Hs6.out (by omega) (by omega)).mono ?_
  rw [sameL_self]
  rintro _ w7 ⟨rfl, hx7⟩
  have Hx47 := Lib.hid (Hx46.out.trans hx7)
  have H7 := Lib.hid (show Calls Tryd.prog 17 #[.slice B k cb] w7 (fun r w' => r = .returned (.string T) ∧ Ext w7 w') by
    have h9 := ex_All B k cb (allE l) _ w7 (Hs4.out.ext Hx47.out) (by omega) (sm_of_may (allE_ok l)) (Hv.out.ext (Hx4.out.trans Hx47.out))
    rw [HA.out] at h9
    exact h9)
  clear hx7
  go_wp2_with fail
  refine H7.out.mono ?_
  rintro _ w8 ⟨rfl, hx8⟩
  have Hx8 := Lib.hid (Hx4.out.trans (Hx47.out.trans hx8))
  clear hx8
  go_wp2_with fail
  go_ret
  exact ⟨rfl, Hx8.out⟩
end Go.Proofs.YtmhkgfoimkonoaaDoor
