/-
  What is proved here: the law ExportSame returns true, whatever the events and the places, and leaves old memory as it was. Conditions: no text is longer than a text can be; the library's variables, and the names of the kinds, hold what their text lays.
-/
import Derived.Test.YtmhkgfoimkonoaaDoorExV
namespace Go.Proofs.YtmhkgfoimkonoaaDoor
open Go Go.RowKit Go.Proofs
attribute [local go_sem ↓] Go.wp_at_zero Go.wp_at_succ
set_option maxRecDepth 100000 in
set_option maxHeartbeats 8000000 in
theorem law_ESame (A : Option Addr) (n c : Nat) (l : List Ev) (first second : Int) (ok : Nat → Prop) (w : World) (hs : Sl evR ok w A n l) (hnc : n ≤ c) (hn : n ≤ 140737488355328) (hwf : ∀ e ∈ l, EvWf e) (hv : Vars w) :
    Calls Tryd.prog 8 #[.slice A n c, .int .i64 first, .int .i64 second] w fun r w' => r = .returned (.bool true) ∧ Ext w w' := by
  have Hs := Lib.hid hs
  have Hl := Lib.hid hs.1
  have Hv := Lib.hid hv
  cases hhv : heavyE l
  case true =>
    have GH := Lib.hid (fun (W : World) (h : Sl evR ok W A n l) => show Calls Tryd.prog 16 #[.slice A n c] W (fun r w' => r = .returned (.bool true) ∧ Ext W w') by rw [← hhv]; exact law_heavy A n c l ok W h hn hwf)
    clear hs hv hwf hhv
    go_enter Tryd.func8, Tryd.ntmps8
    go_wp2_with (first | (go_at_call 15; refine (law42_lives _ Hv.out).mono ?_; rintro _ w1 ⟨rfl, hx1⟩; have Hx1 := Lib.hid hx1; clear hx1) | (go_at_call 16; refine (GH.out _ (Hs.out.ext Hx1.out)).mono ?_; rintro _ w2 ⟨rfl, hx2⟩; have Hx2 := Lib.hid (Hx1.out.trans hx2); clear hx2))
    go_ret
    exact ⟨rfl, Hx2.out⟩
  have GH := Lib.hid (fun (W : World) (h : Sl evR ok W A n l) => show Calls Tryd.prog 16 #[.slice A n c] W (fun r w' => r = .returned (.bool false) ∧ Ext W w') by rw [← hhv]; exact law_heavy A n c l ok W h hn hwf)
  obtain ⟨h30, hsm⟩ := heavy_no hhv
  rw [hs.1] at h30
  have Hsm := Lib.hid hsm
  clear hs hv hwf hhv hsm
  go_enter Tryd.func8, Tryd.ntmps8
  go_wp2_with (first | (go_at_call 15; refine (law42_lives _ Hv.out).mono ?_; rintro _ w1 ⟨rfl, hx1⟩; have Hx1 := Lib.hid hx1; clear hx1) | (go_at_call 16; refine (GH.out _ (Hs.out.ext Hx1.out)).mono ?_; rintro _ w2 ⟨rfl, hx2⟩; have Hx2 := Lib.hid (Hx1.out.trans hx2); clear hx2))
  refine (rf_Alike A n c l ok w2 (Hs.out.ext Hx2.out) (by omega)).mono ?_
  rintro _ w3 ⟨al, rfl, hal, hx3⟩
  have Hx3 := Lib.hid (Hx2.out.trans hx3)
  have Hal := Lib.hid hal
  clear hx3 hal
  cases al
  · go_wp2_with fail
    go_ret
    exact ⟨rfl, Hx3.out⟩
  by_cases hf0 : first < 0
  · go_wp2_with fail
    go_ret
    exact ⟨rfl, Hx3.out⟩
  by_cases hf1 : second < first
  · go_wp2_with fail
    go_ret
    exact ⟨rfl, Hx3.out⟩
  by_cases hf2 : (n : Int) < second
  · go_wp2_with fail
    go_ret
    exact ⟨rfl, Hx3.out⟩
  obtain ⟨f, rfl⟩ : ∃ f : Nat, first = f := ⟨first.toNat, by omega⟩
  obtain ⟨t, rfl⟩ : ∃ t : Nat, second = t := ⟨second.toNat, by omega⟩
  have hft : f ≤ t := by omega
  have htn : t ≤ n := by omega
  clear hf0 hf1 hf2
  have hAl : Alike l := Hal.out rfl
  obtain ⟨la, hla⟩ : ∃ x, x = l.take f := ⟨_, rfl⟩
  obtain ⟨lb, hlb⟩ : ∃ x, x = (l.drop f).take (t - f) := ⟨_, rfl⟩
  obtain ⟨lc, hlc⟩ : ∃ x, x = l.drop t := ⟨_, rfl⟩
  have hsum : la ++ lb ++ lc = l := by
    rw [hla, hlb, hlc]
    have h1 : l.drop f = (l.drop f).take (t - f) ++ (l.drop f).drop (t - f) := (List.take_append_drop _ _).symm
    rw [List.drop_drop, show f + (t - f) = t by omega] at h1
    conv => rhs; rw [← List.take_append_drop f l, h1]
    rw [List.append_assoc]
  have hln : l.length ≤ 30 := by have := Hl.out; omega
  have hll : la.length + lb.length + lc.length = l.length := by rw [← hsum]; simp only [List.length_append]
  have ma : ∀ e ∈ la, e ∈ l := fun e he => by rw [← hsum]; simp [he]
  have mb : ∀ e ∈ lb, e ∈ l := fun e he => by rw [← hsum]; simp [he]
  have mc : ∀ e ∈ lc, e ∈ l := fun e he => by rw [← hsum]; simp [he]
  have mab : ∀ e ∈ la ++ lb, e ∈ l := fun e he => (List.mem_append.1 he).elim (ma e) (mb e)
  have mbc : ∀ e ∈ lb ++ lc, e ∈ l := fun e he => (List.mem_append.1 he).elim (mb e) (mc e)
  have HM := fun (a b : List Ev) (ha : ∀ e ∈ a, e ∈ l) (hb : ∀ e ∈ b, e ∈ l) (hx1 : a.length ≤ 60) (hx2 : b.length ≤ 60) (T1 T2 T3 : ByteArray) (h1 : T1 = textB (allE a)) (h2 : T2 = textB (allE b)) (h3 : T3 = textB (allE (a ++ b))) (W : World) (hx : Ext w3 W) =>
    ex_Merge_all a b W hx1 hx2 (alike_sub hAl fun e he => (List.mem_append.1 he).elim (ha e) (hb e)) (Hv.out.ext (Hx3.out.trans hx)) T1 T2 T3 h1 h2 h3
  have HAll := Lib.hid (fun (W : World) (hx : Ext w3 W) (X : Option Addr) (m cap : Nat) (d : List Ev) (T : ByteArray) (hd : ∀ e ∈ d, e ∈ l) (hm : m ≤ 30) (hT : T = textB (allE d)) (hsl : Sl evR ok w X m d) =>
    show Calls Tryd.prog 17 #[.slice X m cap] W (fun r w' => r = .returned (.string T) ∧ Ext W w') by
      rw [hT]; exact ex_All X m cap d ok W (hsl.ext (Hx3.out.trans hx)) (by omega) (fun e he => Hsm.out e (hd e he)) (Hv.out.ext (Hx3.out.trans hx)))
  obtain ⟨TA, hTA⟩ : ∃ T, T = textB (allE la) := ⟨_, rfl⟩
  obtain ⟨TB, hTB⟩ : ∃ T, T = textB (allE lb) := ⟨_, rfl⟩
  obtain ⟨TC, hTC⟩ : ∃ T, T = textB (allE lc) := ⟨_, rfl⟩
  obtain ⟨TX, hTX⟩ : ∃ T, T = textB (allE (la ++ lb)) := ⟨_, rfl⟩
  obtain ⟨TU, hTU⟩ : ∃ T, T = textB (allE (lb ++ lc)) := ⟨_, rfl⟩
  obtain ⟨TZ, hTZ⟩ : ∃ T, T = textB (allE l) := ⟨_, rfl⟩
  have M1 := Lib.hid (HM la lb ma mb (by omega) (by omega) TA TB TX hTA hTB hTX)
  have M2 := Lib.hid (HM lb la mb ma (by omega) (by omega) TB TA TX hTB hTA (by rw [hTX]; congr 1; exact allE_eq fun e => by rw [List.mem_append, List.mem_append, or_comm]))
  have M3 := Lib.hid (HM (la ++ lb) lc mab mc (by rw [List.length_append]; omega) (by omega) TX TC TZ hTX hTC (by rw [hsum]; exact hTZ))
  have M4 := Lib.hid (HM lb lc mb mc (by omega) (by omega) TB TC TU hTB hTC hTU)
  have M5 := Lib.hid (HM la (lb ++ lc) ma mbc (by omega) (by rw [List.length_append]; omega) TA TU TZ hTA hTU (by rw [← List.append_assoc, hsum]; exact hTZ))
  have M6 := Lib.hid (HM l l (fun _ h => h) (fun _ h => h) (by omega) (by omega) TZ TZ TZ hTZ hTZ (by rw [hTZ]; congr 1; exact allE_eq fun e => by rw [List.mem_append, or_self]))
  have M7 := Lib.hid (HM [] l (fun _ h => by cases h) (fun _ h => h) (by simp) (by omega) ⟨#[]⟩ TZ TZ rfl hTZ hTZ)
  have HA1 := Lib.hid (fun (X : Option Addr) (m cap : Nat) (hm : m ≤ 30) (h : Sl evR ok w X m la) (W : World) (hx : Ext w3 W) => HAll.out W hx X m cap la TA ma hm hTA h)
  have HA2 := Lib.hid (fun (X : Option Addr) (m cap : Nat) (hm : m ≤ 30) (h : Sl evR ok w X m lb) (W : World) (hx : Ext w3 W) => HAll.out W hx X m cap lb TB mb hm hTB h)
  have HA3 := Lib.hid (fun (X : Option Addr) (m cap : Nat) (hm : m ≤ 30) (h : Sl evR ok w X m lc) (W : World) (hx : Ext w3 W) => HAll.out W hx X m cap lc TC mc hm hTC h)
  have HA4 := Lib.hid (fun (W : World) (hx : Ext w3 W) => HAll.out W hx A n c l TZ (fun _ h => h) (by omega) hTZ Hs.out)
  have HTBC := Lib.hid (show c = f → TB = TC from fun h => by
    have h1 : lb = [] := by rw [hlb, List.drop_eq_nil_of_le (by have := Hl.out; omega), List.take_nil]
    have h2 : lc = [] := by rw [hlc, List.drop_eq_nil_of_le (by have := Hl.out; omega)]
    rw [hTB, hTC, h1, h2])
  have HSA := Lib.hid (show Sl evR ok w A f la by rw [hla]; exact Hs.out.to_ (by omega))
  have HSB := Lib.hid (show Sl evR ok w (if c = f then A else A.map (·.add (f * evR.size))) (t - f) lb by rw [hlb]; exact (Hs.out.cut (k := f) (cap := c) (by omega) hnc).to_ (by omega))
  have HSC := Lib.hid (show Sl evR ok w (if c = t then A else A.map (·.add (t * evR.size))) (n - t) lc by rw [hlc]; exact Hs.out.cut (k := t) (cap := c) (by omega) hnc)
  simp only [show evR.size = 8 from rfl] at HSB HSC
  have i0 : (0 : Int) ≤ (f : Int) := by omega
  have i1 : (f : Int) ≤ (t : Int) := by omega
  have i2 : (t : Int) ≤ (n : Int) := by omega
  have i3 : (t : Int) ≤ (c : Int) := by omega
  have i4 : (f : Int) ≤ (c : Int) := by omega
  have i5 : (0 : Int) ≤ (t : Int) := by omega
  clear hla hlb hlc hsum hll ma mb mc mab mbc HM HAll hTA hTB hTC hTX hTU hTZ hAl hln
  go_upto_region 5 with fail
  go_cut [7, 8, 9] (fun s7 s8 s9 wc => s7 = .string TA ∧ s8 = .string TB ∧ s9 = .string TC ∧ Ext w3 wc)
  case first =>
    by_cases hcf : c = f
    · have htb := HTBC.out hcf
      have e1 : t = f := by omega
      have e2 : n = f := by omega
      subst e1 e2 hcf
      rw [if_pos rfl, Nat.sub_self] at HSB HSC
      refine wp_region_ext w3 (Keeps.refl _ _) (by kernel_rfl) (by kernel_rfl) ?_
      repeat (go_big_quiet_step (first
        | (go_at_call 17; with_reducible exact ext_calls (HA1.out _ _ _ (by omega) HSA.out _ (XW.h _)))
        | (go_at_call 17; with_reducible exact ext_calls (HA2.out _ _ _ (by omega) HSB.out _ (XW.h _)))
        | (go_at_call 17; with_reducible exact ext_calls (HA3.out _ _ _ (by omega) HSC.out _ (XW.h _)))))
      refine wpQuiet_nil ?_
      rintro _ ⟨y, rfl⟩
      go_wp2_with fail
      go_meet
      first | exact ⟨rfl, rfl, by rw [htb], y.h⟩ | exact ⟨rfl, by rw [htb], rfl, y.h⟩
    · rw [if_neg hcf] at HSB
      by_cases hct : c = t
      · have e2 : n = t := by omega
        rw [if_pos hct] at HSC
        subst e2 hct
        rw [Nat.sub_self] at HSC
        refine wp_region_ext w3 (Keeps.refl _ _) (by kernel_rfl) (by kernel_rfl) ?_
        repeat (go_big_quiet_step (first
          | (go_at_call 17; with_reducible exact ext_calls (HA1.out _ _ _ (by omega) HSA.out _ (XW.h _)))
          | (go_at_call 17; with_reducible exact ext_calls (HA2.out _ _ _ (by omega) HSB.out _ (XW.h _)))
          | (go_at_call 17; with_reducible exact ext_calls (HA3.out _ _ _ (by omega) HSC.out _ (XW.h _)))))
        refine wpQuiet_nil ?_
        rintro _ ⟨y, rfl⟩
        go_wp2_with fail
        go_meet
        exact ⟨rfl, rfl, rfl, y.h⟩
      · rw [if_neg hct] at HSC
        refine wp_region_ext w3 (Keeps.refl _ _) (by kernel_rfl) (by kernel_rfl) ?_
        repeat (go_big_quiet_step (first
          | (go_at_call 17; with_reducible exact ext_calls (HA1.out _ _ _ (by omega) HSA.out _ (XW.h _)))
          | (go_at_call 17; with_reducible exact ext_calls (HA2.out _ _ _ (by omega) HSB.out _ (XW.h _)))
          | (go_at_call 17; with_reducible exact ext_calls (HA3.out _ _ _ (by omega) HSC.out _ (XW.h _)))))
        refine wpQuiet_nil ?_
        rintro _ ⟨y, rfl⟩
        go_wp2_with fail
        go_meet
        exact ⟨rfl, rfl, rfl, y.h⟩
  case rest =>
    obtain ⟨h7, h8, h9, hx4⟩ := hcut
    obtain ⟨w4, hw4⟩ : ∃ w4, w4 = wc := ⟨_, rfl⟩
    rw [← hw4] at hx4 ⊢
    subst h7 h8 h9
    have Hx4 := Lib.hid hx4
    clear hx4 hw4 HSA HSB HSC HA1 HA2 HA3
    go_wp2_with fail
    refine (M1.out w4 Hx4.out).mono ?_
    rintro _ w5 ⟨rfl, hx5⟩
    have Hx5 := Lib.hid (Hx4.out.trans hx5)
    clear hx5
    go_wp2_with fail
    refine (M2.out w5 Hx5.out).mono ?_
    rintro _ w6 ⟨rfl, hx6⟩
    have Hx6 := Lib.hid (Hx5.out.trans hx6)
    clear hx6
    go_wp2_with fail
    refine (M3.out w6 Hx6.out).mono ?_
    rintro _ w7 ⟨rfl, hx7⟩
    have Hx7 := Lib.hid (Hx6.out.trans hx7)
    clear hx7
    go_wp2_with fail
    refine (M4.out w7 Hx7.out).mono ?_
    rintro _ w8 ⟨rfl, hx8⟩
    have Hx8 := Lib.hid (Hx7.out.trans hx8)
    clear hx8
    go_wp2_with fail
    refine (M5.out w8 Hx8.out).mono ?_
    rintro _ w9 ⟨rfl, hx9⟩
    have Hx9 := Lib.hid (Hx8.out.trans hx9)
    clear hx9
    go_wp2_with fail
    refine (M6.out w9 Hx9.out).mono ?_
    rintro _ w10 ⟨rfl, hx10⟩
    have Hx10 := Lib.hid (Hx9.out.trans hx10)
    clear hx10
    go_wp2_with fail
    refine (M7.out w10 Hx10.out).mono ?_
    rintro _ w11 ⟨rfl, hx11⟩
    have Hx11 := Lib.hid (Hx10.out.trans hx11)
    clear hx11
    go_wp2_with fail
    refine (HA4.out w11 Hx11.out).mono ?_
    rintro _ w12 ⟨rfl, hx12⟩
    have Hx12 := Lib.hid (Hx11.out.trans hx12)
    clear hx12
    go_wp2_with fail
    go_ret
    exact ⟨rfl, Hx3.out.trans Hx12.out⟩
end Go.Proofs.YtmhkgfoimkonoaaDoor
