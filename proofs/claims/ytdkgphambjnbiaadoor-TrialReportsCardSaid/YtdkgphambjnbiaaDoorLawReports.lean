/-
  What is proved here: the law TrialReports returns true, whatever the trials, exposures, name and events, and leaves old memory as it was. Conditions: no text is longer than a text can be; the library's variable holds some number.
-/
import Derived.Test.YtdkgphambjnbiaaDoorTrBook
import Derived.Test.YtdkgphambjnbiaaDoorTrRNew
import Derived.Test.YtdkgphambjnbiaaDoorTrRepZ
import Derived.Test.YtdkgphambjnbiaaDoorEvBig
import Derived.Test.YtdkgphambjnbiaaDoorQuiet
import Derived.Deep.RegionWith
import Derived.Deep.RegionHeld3
import Derived.RegionTactic
import Derived.Deep.DeepCutAuto
import Derived.BigRegion
namespace Go.Proofs.YtdkgphambjnbiaaDoor
open Go Go.RowKit Go.Proofs
attribute [local go_sem ↓] Go.wp_at_zero Go.wp_at_succ
theorem newT_parts {l : List Tr} (h : newT l = 0) : l.all mayT = true ∧ clashT l = false := by
  cases hm : l.all mayT
  · rw [newT_bad hm] at h; cases h
  · cases hc : clashT l
    · exact ⟨rfl, rfl⟩
    · rw [newT_clash hm hc] at h; cases h

set_option maxRecDepth 100000 in
set_option maxHeartbeats 4000000 in
theorem law_Reports (name : ByteArray) (A : Option Addr) (n c : Nat) (l : List Tr) (Ax : Option Addr) (nx cx : Nat) (x : List Xp) (Aa : Option Addr) (na ca : Nat) (all : List Ev) (ok : Nat → Prop) (w : World) (hs : Sl trR ok w A n l) (hn : n ≤ 140737488355328) (hwf : ∀ t ∈ l, TrWf t) (hok : ∀ k, ok k → k < w.heap.size)
    (hsx : Sl xpR ok w Ax nx x) (hnx : nx ≤ 140737488355328) (hxt : ∀ y ∈ x, y.trial.size ≤ 140737488355328 ∧ y.person.size ≤ 140737488355328) (hsa : Sl evR ok w Aa na all) (hna : na ≤ 140737488355328) (hca : na ≤ ca) (hew : ∀ e ∈ all, EvWf e) (hmx : Mx w) (hname : name.size ≤ 140737488355328) :
    Calls Tryd.prog 4 #[.slice A n c, .slice Ax nx cx, .string name, .slice Aa na ca] w fun r w' => r = .returned (.bool true) ∧ Ext w w' := by
  have Hs := Lib.hid hs
  have Hl := Lib.hid hs.1
  have Hwf := Lib.hid hwf
  have Hok := Lib.hid hok
  have Hsx := Lib.hid hsx
  have Hlx := Lib.hid hsx.1
  have Hxt := Lib.hid hxt
  have Hsa := Lib.hid hsa
  have Hew := Lib.hid hew
  have Hmx := Lib.hid hmx
  have hnm : n ≤ maxLen := le_maxLen hn
  have hnam : na ≤ maxLen := le_maxLen hna
  have HSo := Lib.hid (fun (W : World) (h : Ext w W) => ref_Some Aa na ca all 300 ok W (Hsa.out.ext h) hnam Hew.out)
  clear hs hwf hok hsx hxt hsa hew hmx
  cases hf : fewTs l
  · go_enter Tryd.func4, Tryd.ntmps4
    go_wp2_with (first | (go_at_call 11; refine (law_lives _).mono ?_; rintro _ w1 ⟨rfl, hx1⟩; have Hx1 := Lib.hid hx1; clear hx1) | (go_at_call 12; refine (law_few A n c l ok _ (Hs.out.ext Hx1.out) hnm Hwf.out).mono ?_; rw [hf]; rintro _ w2 ⟨rfl, hx2⟩; have Hx2 := Lib.hid (Hx1.out.trans hx2); clear hx2))
    go_ret
    exact ⟨rfl, Hx2.out⟩
  have hn13 : n ≤ 13 := by
    have h1 := hf
    simp only [fewTs, Bool.and_eq_true, decide_eq_true_eq] at h1
    have := Hl.out; omega
  have HN := Lib.hid (fun (W : World) (h : Ext w W) => rf_New A n c l ok W (Hs.out.ext h) (by omega) Hwf.out)
  obtain ⟨q, hq⟩ : ∃ q, q = newT l := ⟨_, rfl⟩
  have hv : newT l = q := hq.symm
  have HQ := Lib.hid hq
  clear hq
  by_cases hq0 : q = 0
  case neg =>
    go_enter Tryd.func4, Tryd.ntmps4
    go_wp2_with (first | (go_at_call 11; refine (law_lives _).mono ?_; rintro _ w1 ⟨rfl, hx1⟩; have Hx1 := Lib.hid hx1; clear hx1) | (go_at_call 12; refine (law_few A n c l ok _ (Hs.out.ext Hx1.out) hnm Hwf.out).mono ?_; rw [hf]; rintro _ w2 ⟨rfl, hx2⟩; have Hx2 := Lib.hid (Hx1.out.trans hx2); clear hx2) | (go_at_call 20; refine (HN.out _ Hx2.out).mono ?_; rw [hv]; rintro _ w3 ⟨rfl, hx3⟩; have Hx3 := Lib.hid (Hx2.out.trans hx3); clear hx3))
    go_ret
    exact ⟨rfl, Hx3.out⟩
  subst hq0
  obtain ⟨hm, hcl⟩ := newT_parts HQ.out.symm
  have Hm := Lib.hid hm
  have Hcl := Lib.hid hcl
  clear hm hcl
  by_cases hx30 : 30 < nx
  · go_enter Tryd.func4, Tryd.ntmps4
    go_wp2_with (first | (go_at_call 11; refine (law_lives _).mono ?_; rintro _ w1 ⟨rfl, hx1⟩; have Hx1 := Lib.hid hx1; clear hx1) | (go_at_call 12; refine (law_few A n c l ok _ (Hs.out.ext Hx1.out) hnm Hwf.out).mono ?_; rw [hf]; rintro _ w2 ⟨rfl, hx2⟩; have Hx2 := Lib.hid (Hx1.out.trans hx2); clear hx2) | (go_at_call 20; refine (HN.out _ Hx2.out).mono ?_; rw [hv]; rintro _ w3 ⟨rfl, hx3⟩; have Hx3 := Lib.hid (Hx2.out.trans hx3); clear hx3))
    go_ret
    exact ⟨rfl, Hx3.out⟩
  by_cases ha30 : 30 < na
  · go_enter Tryd.func4, Tryd.ntmps4
    go_wp2_with (first | (go_at_call 11; refine (law_lives _).mono ?_; rintro _ w1 ⟨rfl, hx1⟩; have Hx1 := Lib.hid hx1; clear hx1) | (go_at_call 12; refine (law_few A n c l ok _ (Hs.out.ext Hx1.out) hnm Hwf.out).mono ?_; rw [hf]; rintro _ w2 ⟨rfl, hx2⟩; have Hx2 := Lib.hid (Hx1.out.trans hx2); clear hx2) | (go_at_call 20; refine (HN.out _ Hx2.out).mono ?_; rw [hv]; rintro _ w3 ⟨rfl, hx3⟩; have Hx3 := Lib.hid (Hx2.out.trans hx3); clear hx3))
    go_ret
    exact ⟨rfl, Hx3.out⟩
  cases hso : all.any (fun e => bigE e 300)
  case true =>
    go_enter Tryd.func4, Tryd.ntmps4
    go_wp2_with (first | (go_at_call 11; refine (law_lives _).mono ?_; rintro _ w1 ⟨rfl, hx1⟩; have Hx1 := Lib.hid hx1; clear hx1) | (go_at_call 12; refine (law_few A n c l ok _ (Hs.out.ext Hx1.out) hnm Hwf.out).mono ?_; rw [hf]; rintro _ w2 ⟨rfl, hx2⟩; have Hx2 := Lib.hid (Hx1.out.trans hx2); clear hx2) | (go_at_call 20; refine (HN.out _ Hx2.out).mono ?_; rw [hv]; rintro _ w3 ⟨rfl, hx3⟩; have Hx3 := Lib.hid (Hx2.out.trans hx3); clear hx3) | (go_at_call 21; refine (HSo.out _ Hx3.out).mono ?_; rw [hso]; rintro _ w4 ⟨rfl, hx4⟩; have Hx4 := Lib.hid (Hx3.out.trans hx4); clear hx4))
    go_ret
    exact ⟨rfl, Hx4.out⟩
  by_cases h300 : 300 < name.size
  · go_enter Tryd.func4, Tryd.ntmps4
    go_wp2_with (first | (go_at_call 11; refine (law_lives _).mono ?_; rintro _ w1 ⟨rfl, hx1⟩; have Hx1 := Lib.hid hx1; clear hx1) | (go_at_call 12; refine (law_few A n c l ok _ (Hs.out.ext Hx1.out) hnm Hwf.out).mono ?_; rw [hf]; rintro _ w2 ⟨rfl, hx2⟩; have Hx2 := Lib.hid (Hx1.out.trans hx2); clear hx2) | (go_at_call 20; refine (HN.out _ Hx2.out).mono ?_; rw [hv]; rintro _ w3 ⟨rfl, hx3⟩; have Hx3 := Lib.hid (Hx2.out.trans hx3); clear hx3) | (go_at_call 21; refine (HSo.out _ Hx3.out).mono ?_; rw [hso]; rintro _ w4 ⟨rfl, hx4⟩; have Hx4 := Lib.hid (Hx3.out.trans hx4); clear hx4))
    go_ret
    exact ⟨rfl, Hx4.out⟩
  have Hsm := Lib.hid (show ∀ e ∈ all, EvSm e from fun e he => evSm_of (by have := List.any_eq_false.1 hso e he; simpa using this) (by omega))
  go_enter Tryd.func4, Tryd.ntmps4
  go_wp2_with (first | (go_at_call 11; refine (law_lives _).mono ?_; rintro _ w1 ⟨rfl, hx1⟩; have Hx1 := Lib.hid hx1; clear hx1) | (go_at_call 12; refine (law_few A n c l ok _ (Hs.out.ext Hx1.out) hnm Hwf.out).mono ?_; rw [hf]; rintro _ w2 ⟨rfl, hx2⟩; have Hx2 := Lib.hid (Hx1.out.trans hx2); clear hx2) | (go_at_call 20; refine (HN.out _ Hx2.out).mono ?_; rw [hv]; rintro _ w3 ⟨rfl, hx3⟩; have Hx3 := Lib.hid (Hx2.out.trans hx3); clear hx3) | (go_at_call 21; refine (HSo.out _ Hx3.out).mono ?_; rw [hso]; rintro _ w4 ⟨rfl, hx4⟩; have Hx4 := Lib.hid (Hx3.out.trans hx4); clear hx4))
  refine (law_book A n c l ok _ (Hs.out.ext Hx4.out) (by omega) Hwf.out (fun k hk => Nat.lt_of_lt_of_le (Hok.out k hk) Hx4.out.size)).mono ?_
  rintro e w5 ⟨hx5, h5⟩
  have Hx5 := Lib.hid (Hx4.out.trans hx5)
  rw [if_pos Hm.out, if_neg (by rw [Hcl.out]; decide)] at h5
  obtain ⟨b, m, lim, v, rfl, hmw, hbk⟩ := h5
  have Hst := Lib.hid (HadAt.start (x := x) hbk Hx5.out (Nat.le_trans Hx4.out.size hmw))
  clear hx5 hbk hmw hv hso
  go_wp2_with fail
  go_loopw [11, 12] (fun h i wr => ∃ (k : Nat) (Ah : Option Addr) (nh ch : Nat) (outer : List (ByteArray × Nat)), k ≤ nx ∧ i = .int .i64 k ∧ h = .slice Ah nh ch ∧ HadAt w wr b m lim v l x k Ah nh outer) (fun _ i _ => nx - (intOf i).toNat)
  case atStart => exact ⟨0, none, 0, 0, [], Nat.zero_le _, rfl, rfl, Hst.out⟩
  case round =>
    obtain ⟨k, Ah, nh, ch, outer, hk, rfl, rfl, hat⟩ := hrel
    have Hat := Lib.hid hat
    have Hx := Lib.hid hat.ext
    have hnh : nh ≤ 30 := by
      have h1 := hat.sl.1
      have h2 := hadOf_len l (x.take k)
      rw [List.length_take] at h2
      omega
    clear hat
    by_cases hlt : k < nx
    · obtain ⟨bx, ox, e, rfl, hbx, hox, he, d0, d1, d2⟩ := Hsx.out.xp hlt
      have He := Lib.hid he
      obtain ⟨ht1, hp1⟩ := Hxt.out e (List.mem_of_getElem? he)
      have hp2 : e.person.size < maxLen := lt_maxLen hp1
      have i0 : (0 : Int) ≤ (k : Int) := by omega
      have i1 : (k : Int) < (nx : Int) := by omega
      have y0 := (Hx.out.cell (p := ⟨bx, ox + k * 3, none⟩) hbx trivial).trans d0
      have y1 := (Hx.out.cell (p := ⟨bx, ox + k * 3 + 1, none⟩) hbx trivial).trans d1
      have y2 := (Hx.out.cell (p := ⟨bx, ox + k * 3 + 2, none⟩) hbx trivial).trans d2
      have HE := Lib.hid (fun (W : World) (h : Ext wr W) => rf_Expose A n c l Ah nh ch (hadOf l (x.take k)) e ok _ W ((Hs.out.ext Hx.out).ext h) (by omega) Hwf.out (Hat.out.sl.ext h) (by omega) hp2)
      have ew : IntKind.i64.wrap ((e.person.size : Int) + (e.trial.size : Int)) = (e.person.size : Int) + (e.trial.size : Int) := IntWalk.i64_in _ (by omega)
      clear he
      by_cases h9 : 300 < e.person.size + e.trial.size
      · have e2 : decide ((300 : Int) < IntKind.i64.wrap ((e.person.size : Int) + (e.trial.size : Int))) = true := by rw [ew]; simp; omega
        clear ew d0 d1 d2
        go_wp2_with fail
        go_quiet (fail)
        clear e2
        go_wp2_with fail
        go_ret
        exact ⟨rfl, Hx.out.drewN _⟩
      have e2 : decide ((300 : Int) < IntKind.i64.wrap ((e.person.size : Int) + (e.trial.size : Int))) = false := by rw [ew]; simp; omega
      clear ew
      have Hd0 := Lib.hid d0
      have Hd1 := Lib.hid d1
      have Hd2 := Lib.hid d2
      clear d0 d1 d2
      go_wp2_with fail
      go_quiet (fail)
      clear e2
      go_upto_region 15 with (go_at_call 23; refine (HE.out _ (Ext.of_drewN _ _)).mono ?_; intro r w6 hr; obtain ⟨A', n', c', rfl, hsl, hx6⟩ := had_step1 Hat.out He.out (Ext.of_drewN _ _) hr; have Hsl := Lib.hid hsl; have Hx6 := Lib.hid (Keeps.trans (Ext.of_drewN _ _) hx6); clear hr hsl hx6)
      have HB := Lib.hid (fun (W : World) (h : Ext w6 W) => bk_Expose b m lim v outer l _ e W ((Hat.out.bk.ext Hx6.out).ext h) (by have := Hl.out; omega) Hwf.out hp2)
      have d0 := Hd0.out
      have d1 := Hd1.out
      have d2 := Hd2.out
      have Hor := Lib.hid (Old.of_ext (Hx.out.trans Hx6.out))
      clear y0 y1 y2 HE
      obtain ⟨q, hq⟩ : ∃ q, okX l e = q := ⟨_, rfl⟩
      rw [hq] at HB ⊢
      have Hq := Lib.hid hq
      clear hq
      cases q
      all_goals
        go_region_held3 (fun w' => w.heap.size ≤ w'.heap.size ∧ ∀ p : Addr, p.block < w.heap.size → w'.cell? p = w.cell? p) (repeat (first | with_reducible assumption | with_reducible exact Hor.out | with_reducible refine Old.drew ?_)) ((go_at_call 24; refine (HB.out _ (by repeat (first | with_reducible exact Keeps.refl _ _ | with_reducible refine Keeps.drew ?_ | with_reducible refine Keeps.drewN ?_ _ | with_reducible refine Keeps.alloc ?_ _))).mono ?_; rintro _ w7 ⟨rfl, outer', hb7, hk7, ho7⟩; have hat7 := had_step2 Hat.out He.out Hsl.out Hx6.out (by repeat (first | with_reducible exact Keeps.refl _ _ | with_reducible refine Keeps.drew ?_ | with_reducible refine Keeps.drewN ?_ _ | with_reducible refine Keeps.alloc ?_ _)) (by rw [Hq.out]; exact hb7) hk7 ho7; have ho8 : Old w w7 := Old.of_ext hat7.ext))
        all_goals
          have Hat7 := Lib.hid hat7
          clear hb7 hk7 ho7 ho8 hat7 d0 d1 d2
          go_wp2_with fail
          go_roundw
          case rel => exact ⟨k + 1, A', n', c', outer', by omega, by go_num, rfl, Hat7.out⟩
          case measure => simp [intOf]; omega
    · obtain rfl : k = nx := by omega
      have HF := Lib.hid (List.take_of_length_le (Nat.le_of_eq Hlx.out))
      obtain ⟨had, hhad⟩ : ∃ had, had = hadOf l x := ⟨_, rfl⟩
      have HH := Lib.hid (show HadOk l had by rw [hhad]; exact hadOf_ok (fun y hy => lt_maxLen (Hxt.out y hy).2))
      have Hsl := Hat.out.sl
      have Hbk := Hat.out.bk
      rw [HF.out, ← hhad] at Hsl Hbk
      have hnh2 := Hsl.1
      have HR := Lib.hid (fun (W : World) (h : Ext wr W) => bk_Report_any b m lim v outer l had name W (Hbk.ext h) (by have := Hl.out; omega) Hm.out Hwf.out HH.out (by omega) Aa na ca all ok ((Hsa.out.ext Hx.out).ext h) (by omega) Hsm.out ((Hmx.out.ext Hx.out).ext h))
      have HR2 := Lib.hid (fun (W : World) (h : Ext wr W) => rf_Report_any A n c l Ah nh ch had name Aa na ca all ok _ ok W ((Hs.out.ext Hx.out).ext h) (by omega) Hm.out Hwf.out (Hsl.ext h) (by omega) HH.out ((Hsa.out.ext Hx.out).ext h) (by omega) hca Hsm.out)
      obtain ⟨R, hR⟩ : ∃ R, R = repL l had name all := ⟨_, rfl⟩
      have hN := repL_len (l := l) (had := had) (name := name) (all := all) Hm.out
      rw [← hR] at HR HR2 hN
      obtain ⟨N, hNe⟩ : ∃ N, N = R.length := ⟨_, rfl⟩
      rw [← hNe] at HR HR2 hN
      clear hhad Hsl Hbk hR
      have HNe := Lib.hid hNe
      clear hNe
      go_wp2_with (first
        | (go_at_call 25; refine (HR.out _ (Keeps.refl _ _)).mono ?_; rintro _ w6 ⟨G1, c1, rfl, hs1, hx6⟩; have Hs1 := Lib.hid hs1; have Hx6 := Lib.hid hx6; clear hs1 hx6)
        | (go_at_call 26; refine (HR2.out _ Hx6.out).mono ?_; rintro _ w7 ⟨G2, c2, rfl, hs2, hx7⟩; have Hs2 := Lib.hid hs2; have Hs1' := Lib.hid (Hs1.out.ext hx7); have Hx7 := Lib.hid ((Hx.out.trans Hx6.out).trans hx7); clear hs2 hx7))
      go_loopw [17] (fun i wr => ∃ q : Nat, q ≤ N ∧ i = .int .i64 q ∧ Ext w7 wr) (fun i _ => N - (intOf i).toNat)
      case atStart => exact ⟨0, Nat.zero_le _, rfl, Keeps.refl _ _⟩
      case round =>
        obtain ⟨q, hq, rfl, hx⟩ := hrel
        have Hxq := Lib.hid hx
        clear hx
        by_cases hql : q < N
        · obtain ⟨b1, o1, r, rfl, hb1, _, hr, z0, z1, z2, z3⟩ := (Hs1'.out.ext Hxq.out).rw hql
          obtain ⟨b2, o2, r2, rfl, hb2, _, hr2, v0, v1, v2, v3⟩ := (Hs2.out.ext Hxq.out).rw hql
          obtain rfl : r = r2 := Option.some.inj (hr.symm.trans hr2)
          have q0 : (0 : Int) ≤ (q : Int) := by omega
          have q1 : (q : Int) < (N : Int) := by omega
          clear hr hr2
          obtain ⟨ra, rp, rb, rz⟩ := r
          dsimp only at z0 z1 z2 z3 v0 v1 v2 v3
          go_wp2_with fail
          refine wp_region_ext wr (Keeps.refl _ _) (by kernel_rfl) (by kernel_rfl) ?_
          have hcell := fun (y : XW wr) => y.cell
          repeat (go_big_quiet_step (fail))
          refine wpQuiet_nil ?_
          rintro _ ⟨y, rfl⟩
          have Hy := Lib.hid y.h
          go_wp2_with fail
          go_roundw
          case rel => exact ⟨q + 1, by omega, by go_num, Hxq.out.trans Hy.out⟩
          case measure => simp [intOf]; omega
        · obtain rfl : q = N := by omega
          go_wp2_with fail
          go_ret
          exact ⟨rfl, Hx7.out.trans Hxq.out⟩
end Go.Proofs.YtdkgphambjnbiaaDoor
