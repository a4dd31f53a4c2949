/-
  What is proved here: the law ExportImports returns true, whatever the text, and leaves old memory as it was. Conditions: no text is longer than a text can be; the library's variables, and the names of the kinds, hold what their text lays.
-/
import Derived.Test.YtmhkgfoimkonoaaDoorExV
namespace Go.Proofs.YtmhkgfoimkonoaaDoor
open Go Go.RowKit Go.Proofs
attribute [local go_sem ↓] Go.wp_at_zero Go.wp_at_succ
theorem sameL_self (l : List Ev) : sameL l l = true := by unfold sameL; simp
set_option maxRecDepth 100000 in
set_option maxHeartbeats 8000000 in
theorem law_EImp (s : ByteArray) (w : World) (hs : s.size ≤ 140737488355328) (hv : Vars w) :
    Calls Tryd.prog 5 #[.string s] w fun r w' => r = .returned (.bool true) ∧ Ext w w' := by
  have Hv := Lib.hid hv
  clear hv
  by_cases hb : 3000 < s.size
  · go_enter Tryd.func5, Tryd.ntmps5
    go_wp2_with (go_at_call 15; refine (law42_lives _ Hv.out).mono ?_; rintro _ w1 ⟨rfl, hx1⟩; have Hx1 := Lib.hid hx1; clear hx1)
    go_ret
    exact ⟨rfl, Hx1.out⟩
  have Hlen := Lib.hid (impS_len s)
  have Hok := Lib.hid (fun h => impS_ok (s := s) (by omega) h)
  have C1 := Lib.hid (fun (W : World) (h : Ext w W) => ex_Import s W (by omega) (Hv.out.ext h))
  have C2 := Lib.hid (fun (W : World) => rf_Import s W (by omega))
  unfold ImPost at C1 C2
  obtain ⟨R, hR⟩ : ∃ R, R = impS s := ⟨_, rfl⟩
  rw [← hR] at C1 C2 Hlen Hok
  clear hR
  obtain ⟨l1, n1, e1⟩ := R
  simp only at C1 C2 Hlen Hok
  go_enter Tryd.func5, Tryd.ntmps5
  go_wp2_with (go_at_call 15; refine (law42_lives _ Hv.out).mono ?_; rintro _ w1 ⟨rfl, hx1⟩; have Hx1 := Lib.hid hx1; clear hx1)
  refine (C1.out w1 Hx1.out).mono ?_
  rintro _ w2 ⟨B2, k2, c2, rfl, hown2, hx2⟩
  have Hx2 := Lib.hid (Hx1.out.trans hx2)
  have Hs2 := Lib.hid hown2.evSl
  have hk2 : k2 ≤ 3000 := by have h1 : l1.length = k2 := hown2.1; have h2 := Hlen.out; omega
  clear hx2 hown2
  go_wp2_with fail
  refine (C2.out w2).mono ?_
  rintro _ w3 ⟨B3, k3, c3, rfl, hown3, hx3⟩
  have Hx23 := Lib.hid hx3
  have Hs3 := Lib.hid hown3.evSl
  have hk3 : k3 ≤ 3000 := by have h1 : l1.length = k3 := hown3.1; have h2 := Hlen.out; omega
  clear hx3 hown3
  go_wp2_with fail
  refine (show Calls Tryd.prog 14 #[.slice B2 k2 c2, .slice B3 k3 c3] w3 (fun e w' => e = .returned (.bool true) ∧ Ext w3 w') by rw [← sameL_self l1]; exact ref_SameL B2 B3 k2 k3 c2 c3 l1 l1 _ _ w3 (Hs2.out.ext Hx23.out) Hs3.out (by omega) (by omega)).mono ?_
  rintro _ w4 ⟨rfl, hx4⟩
  have Hx24 := Lib.hid (Hx23.out.trans hx4)
  clear hx4
  by_cases he : e1 = 0
  · have hok := Hok.out he
    have H5 := Lib.hid (show Calls Tryd.prog 17 #[.slice B2 k2 c2] w4 (fun r w' => r = .returned (.string s) ∧ Ext w4 w') by
      have h9 := ex_All B2 k2 c2 l1 _ w4 (Hs2.out.ext Hx24.out) (by omega) (sm_of_may hok.2.2.2.1) (Hv.out.ext (Hx2.out.trans Hx24.out))
      rw [allE_may hok.2.2.2.1, join_self hok.2.1 hok.2.2.1 hok.2.2.2.1, hok.2.2.2.2] at h9
      exact h9)
    subst he
    clear hok Hok C1 C2
    go_wp2_with fail
    refine H5.out.mono ?_
    rintro _ w5 ⟨rfl, hx5⟩
    have Hx5 := Lib.hid (Hx2.out.trans (Hx24.out.trans hx5))
    clear hx5
    go_wp2_with fail
    go_ret
    exact ⟨rfl, Hx5.out⟩
  · have he' : (e1 != 0) = true := by simpa using he
    clear he Hok
    go_wp2_with fail
    go_ret
    exact ⟨rfl, Hx2.out.trans Hx24.out⟩
end Go.Proofs.YtmhkgfoimkonoaaDoor
