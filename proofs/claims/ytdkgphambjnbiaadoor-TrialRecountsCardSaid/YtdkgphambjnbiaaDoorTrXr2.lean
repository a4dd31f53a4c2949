/-
  What is proved here: the document's report. Conditions: at most a thousand trials, exposures and events, short texts; who is noted as exposed is in the trial, at a tick that is not negative, under a name that is not empty.
-/
import Derived.Test.YtdkgphambjnbiaaDoorTrXr
namespace Go.Proofs.YtdkgphambjnbiaaDoor
open Go Go.RowKit Go.Proofs
attribute [local go_sem ↓] Go.wp_at_zero Go.wp_at_succ
theorem peopleX_len (had : List Xp) (name : ByteArray) : ∀ k, (peopleX (had.take k) name).length ≤ k
  | 0 => Nat.le_refl _
  | k + 1 => by
    have ih := peopleX_len had name k
    cases hk : had[k]? with
    | none =>
      have hl : had.length ≤ k := by simpa using hk
      rw [List.take_of_length_le hl] at ih
      rw [List.take_of_length_le (by omega)]
      omega
    | some x =>
      rw [peopleX_take name hk]
      split
      · simp; omega
      · omega
theorem nilT : (⟨#[]⟩ : ByteArray).toList = [] := by decide +kernel
def RBox (w : World) (g : Nat) (a : ByteArray) (p b z : Int) : Prop := w.heap[g]? = some (.cells #[.string a, .int .i64 p, .int .i64 b, .int .i64 z] 53)
theorem RBox.ext {w w' : World} {g : Nat} {a : ByteArray} {p b z : Int} (h : RBox w g a p b z) (hx : Ext w w') : RBox w' g a p b z := hx.blk h
set_option maxRecDepth 100000 in
set_option maxHeartbeats 8000000 in
theorem rf_Report (A : Option Addr) (n c : Nat) (l : List Tr) (Ax : Option Addr) (nx cx : Nat) (had : List Xp) (name : ByteArray) (Al : Option Addr) (na cl : Nat) (all : List Ev) (ok ok2 ok3 : Nat → Prop) (w : World) (hs : Sl trR ok w A n l) (hn : n ≤ 1000) (hwf : ∀ t ∈ l, TrWf t) (hsx : Sl xpR ok2 w Ax nx had) (hnx : nx ≤ 1000) (hsl : Sl evR ok3 w Al na all) (hna : na ≤ 1000) (hcl : na ≤ cl) (hsm : ∀ e ∈ all, EvSm e)
    (i : Nat) (t : Tr) (hi : l.findIdx? (fun o => o.name == name) = some i) (ht : l[i]? = some t) (hm : mayT t = true) (hin : ∀ x ∈ had, x.trial = name → inT t x.person = true) (hps : ∀ x ∈ had, x.person.size < maxLen) (htk : ∀ x ∈ had, 0 ≤ x.tick) (hemp : getM (fun a b : ByteArray => a == b) (xsOf had name) ⟨#[]⟩ = none) :
    Calls Tryd.prog 26 #[.slice A n c, .slice Ax nx cx, .string name, .slice Al na cl] w fun r w' => ∃ B cb, r = .returned (.slice B t.arms.length cb) ∧ Own rwR 53 (fun _ => True) w' w.heap.size (.slice B t.arms.length cb) t.arms.length (rowsE t (peopleX had name) (cntL (xsOf had name) all)) ∧ Ext w w' := by
  obtain ⟨z0, hi0, hz0, hz1, hz2⟩ := info_part3 info_rw
  have Hs := Lib.hid hs
  have Hl := Lib.hid hs.1
  have Hsx := Lib.hid hsx
  have Hlx := Lib.hid hsx.1
  have Hse := Lib.hid hsl
  have Hla := Lib.hid hsl.1
  have HSM := Lib.hid hsm
  have Hin := Lib.hid hin
  have Hps := Lib.hid hps
  have Htk := Lib.hid htk
  have Hemp := Lib.hid hemp
  have Hnd := Lib.hid (armsOk_nodup (mayT_parts hm).arms)
  have hfew := (mayT_parts hm).few
  have Hix := Lib.hid (idxT_some hi)
  have Hw := Lib.hid (hwf t (List.mem_of_getElem? ht))
  have hil : i < n := by have h1 := (List.getElem?_eq_some_iff.1 ht).1; have h2 := Hl.out; omega
  obtain ⟨b', o', t', A', c', hA, hb', _, ht', hc', hs', f0, f1, f2, f3, f4⟩ := Hs.out.tr hil
  obtain rfl : t = t' := Option.some.inj (ht.symm.trans ht')
  subst hA
  have HF := Lib.hid (show ∀ W, Ext w W → W.cell? ⟨b', o' + i * 5, none⟩ = some (.string t.name) ∧ W.cell? ⟨b', o' + i * 5 + 1, none⟩ = some (.string t.layer) ∧ W.cell? ⟨b', o' + i * 5 + 2, none⟩ = some (.int .i64 t.lo) ∧ W.cell? ⟨b', o' + i * 5 + 3, none⟩ = some (.int .i64 t.hi) ∧ W.cell? ⟨b', o' + i * 5 + 4, none⟩ = some (.slice A' t.arms.length c') from
    fun W hx => ⟨(hx.cell (p := ⟨b', o' + i * 5, none⟩) hb' trivial).trans f0, (hx.cell (p := ⟨b', o' + i * 5 + 1, none⟩) hb' trivial).trans f1, (hx.cell (p := ⟨b', o' + i * 5 + 2, none⟩) hb' trivial).trans f2, (hx.cell (p := ⟨b', o' + i * 5 + 3, none⟩) hb' trivial).trans f3, (hx.cell (p := ⟨b', o' + i * 5 + 4, none⟩) hb' trivial).trans f4⟩)
  have Hs' := Lib.hid hs'
  have j0 : (0 : Int) ≤ (i : Int) := by omega
  have j1 : (i : Int) < (n : Int) := by omega
  have j2 : ¬ (i : Int) < 0 := by omega
  have j3 : decide ((i : Int) < 0) = false := by simp
  clear hs hwf hsx hsl hsm hin hps htk hemp hi ht ht' hm hs' f0 f1 f2 f3 f4
  go_enter Tryd.func26, Tryd.ntmps26
  go_wp2_with (go_at_call 38; refine (rf_Find _ n c l name _ _ Hs.out hn).mono ?_; rw [Hix.out]; rintro _ _ ⟨rfl, rfl⟩)
  go_loopw [10, 11] (fun v i wr => ∃ (q : Nat) (B : Option Addr) (cb : Nat), q ≤ t.arms.length ∧ i = .int .i64 q ∧ v = .slice B q cb ∧ Own rwR 53 (fun _ => True) wr w.heap.size (.slice B q cb) q ((rowsE t (peopleX had name) (cntL (xsOf had name) all)).take q) ∧ Ext w wr) (fun _ i _ => t.arms.length - (intOf i).toNat)
  case atStart => exact ⟨0, none, 0, Nat.zero_le _, rfl, rfl, Own.nil_, Keeps.refl _ _⟩
  case round =>
    obtain ⟨q, B, cb, hq, rfl, rfl, hown, hx⟩ := hrel
    obtain ⟨W1, hW1⟩ : ∃ W1, W1 = wr := ⟨_, rfl⟩
    rw [← hW1] at hown hx ⊢
    clear hW1
    have Hown := Lib.hid hown
    have Hx := Lib.hid hx
    have hsz := hx.size
    obtain ⟨_, _, _, _, g4⟩ := HF.out W1 hx
    clear hown hx
    by_cases hlt : q < t.arms.length
    · obtain ⟨ba, oa, a, rfl, hba, _, ha, da⟩ := (Hs'.out.ext Hx.out).str hlt
      have Ha := Lib.hid ha
      have q0 : (0 : Int) ≤ (q : Int) := by omega
      have q1 : (q : Int) < (t.arms.length : Int) := by omega
      clear ha
      go_wp2_with fail
      go_loopw [13] (fun i wr' => ∃ k : Nat, k ≤ nx ∧ i = .int .i64 k ∧ RBox wr' W1.heap.size a (pplN t (peopleX (had.take k) name) q : Nat) 0 0 ∧ Ext W1 wr') (fun i _ => nx - (intOf i).toNat)
      case atStart => exact ⟨0, Nat.zero_le _, rfl, blk_new _ _, (Keeps.refl _ _).alloc _⟩
      case round =>
        obtain ⟨k, hk, rfl, hbox, hx2⟩ := hrel
        have Hbox := Lib.hid hbox
        have Hx2 := Lib.hid hx2
        have hgl := (Array.getElem?_eq_some_iff.1 hbox).1
        clear hbox hx2 g4 da
        by_cases hkl : k < nx
        · obtain ⟨bx, ox, x, rfl, hbx, _, hx, x0, x1, x2⟩ := (Hsx.out.ext (Hx.out.trans Hx2.out)).xp hkl
          have HX := Lib.hid hx
          have Hpsx := Lib.hid (Hps.out x (List.mem_of_getElem? hx))
          have Hinx := Lib.hid (Hin.out x (List.mem_of_getElem? hx))
          have k0 : (0 : Int) ≤ (k : Int) := by omega
          have k1 : (k : Int) < (nx : Int) := by omega
          obtain ⟨Z, hZ⟩ : ∃ Z, Z = wr := ⟨_, rfl⟩
          rw [← hZ] at Hbox Hx2 hbx x0 x1 x2 hgl ⊢
          clear hx x2 hZ
          go_wp2_with fail
          go_loopw [14, 15] (fun fv i wr'' => ∃ (m : Nat) (fb : Bool), m ≤ k ∧ i = .int .i64 m ∧ fv = .bool fb ∧ fb = (!wasX (had.take m) x) ∧ Ext Z wr'') (fun _ i _ => k - (intOf i).toNat)
          case atStart => exact ⟨0, true, Nat.zero_le _, rfl, rfl, rfl, Keeps.refl _ _⟩
          case round =>
            obtain ⟨m, fb, hmk, rfl, rfl, hfb, hx3⟩ := hrel
            have Hfb := Lib.hid hfb
            have Hx3 := Lib.hid hx3
            have y0 := (hx3.cell (p := ⟨bx, ox + k * 3, none⟩) hbx trivial).trans x0
            have y1 := (hx3.cell (p := ⟨bx, ox + k * 3 + 1, none⟩) hbx trivial).trans x1
            obtain ⟨V, hV⟩ : ∃ V, V = wr := ⟨_, rfl⟩
            rw [← hV] at Hx3 y0 y1 ⊢
            have hbxV : bx < V.heap.size := Nat.lt_of_lt_of_le hbx Hx3.out.size
            clear hfb hx3 hV
            by_cases hml : m < k
            · obtain ⟨bx2, ox2, y, e2, hby, _, hy, v0, v1, v2⟩ := (Hsx.out.ext ((Hx.out.trans Hx2.out).trans Hx3.out)).xp (show m < nx by omega)
              have e3 := Option.some.inj e2
              injection e3 with e4 e5
              subst e4 e5
              have Hst := Lib.hid (was_step (x := x) hy)
              have m0 : (0 : Int) ≤ (m : Int) := by omega
              have m1 : (m : Int) < (nx : Int) := by omega
              have m2 : (m : Int) < (k : Int) := by omega
              have hs1 : (y.trial == x.trial) = (y.trial.toList == x.trial.toList) := beq_toListBytes _ _
              have hs2 : (y.person == x.person) = (y.person.toList == x.person.toList) := beq_toListBytes _ _
              clear hy v2 e2
              cases h1 : (y.trial == x.trial)
              · rw [h1] at hs1
                have s1 : (y.trial.toList == x.trial.toList) = false := hs1.symm
                have Hn := Lib.hid (show fb = !wasX (had.take (m + 1)) x by rw [Hst.out, h1, Hfb.out]; simp)
                clear hs1 hs2 h1
                go_upto_region 16 with fail
                refine wp_region_ext V (Keeps.refl _ _) (by kernel_rfl) (by kernel_rfl) ?_
                have hcell := fun (y : XW V) => y.cell
                repeat (go_big_quiet_step (fail))
                refine wpQuiet_nil ?_; rintro _ ⟨yw, rfl⟩
                clear hcell v0 v1 y0 y1
                go_wp2_with fail
                go_roundw
                case rel => exact ⟨m + 1, fb, by omega, by go_num, rfl, Hn.out, Hx3.out.trans yw.h⟩
                case measure => simp [intOf]; omega
              · rw [h1] at hs1
                have s1 : (y.trial.toList == x.trial.toList) = true := hs1.symm
                cases h2 : (y.person == x.person)
                · rw [h2] at hs2
                  have s2 : (y.person.toList == x.person.toList) = false := hs2.symm
                  have Hn := Lib.hid (show fb = !wasX (had.take (m + 1)) x by rw [Hst.out, h1, h2, Hfb.out]; simp)
                  clear hs1 hs2 h1 h2
                  go_upto_region 16 with fail
                  refine wp_region_ext V (Keeps.refl _ _) (by kernel_rfl) (by kernel_rfl) ?_
                  have hcell := fun (y : XW V) => y.cell
                  repeat (go_big_quiet_step (fail))
                  refine wpQuiet_nil ?_; rintro _ ⟨yw, rfl⟩
                  clear hcell v0 v1 y0 y1
                  go_wp2_with fail
                  go_roundw
                  case rel => exact ⟨m + 1, fb, by omega, by go_num, rfl, Hn.out, Hx3.out.trans yw.h⟩
                  case measure => simp [intOf]; omega
                · rw [h2] at hs2
                  have s2 : (y.person.toList == x.person.toList) = true := hs2.symm
                  have Hn := Lib.hid (show false = !wasX (had.take (m + 1)) x by rw [Hst.out, h1, h2]; simp)
                  clear hs1 hs2 h1 h2
                  go_upto_region 16 with fail
                  refine wp_region_ext V (Keeps.refl _ _) (by kernel_rfl) (by kernel_rfl) ?_
                  have hcell := fun (y : XW V) => y.cell
                  repeat (go_big_quiet_step (fail))
                  refine wpQuiet_nil ?_; rintro _ ⟨yw, rfl⟩
                  clear hcell v0 v1 y0 y1
                  go_wp2_with fail
                  go_roundw
                  case rel => exact ⟨m + 1, false, by omega, by go_num, rfl, Hn.out, Hx3.out.trans yw.h⟩
                  case measure => simp [intOf]; omega
            · obtain rfl : m = k := by omega
              obtain ⟨g0, g1, g2, g3, g4⟩ := HF.out V ((Hx.out.trans Hx2.out).trans Hx3.out)
              have CA := Lib.hid (fun (W : World) (hx : Ext V W) => rf_Arm t x.person _ c' _ W ((Hs'.out.ext ((Hx.out.trans Hx2.out).trans Hx3.out)).ext hx) Hw.out Hpsx.out)
              have hb'V : b' < V.heap.size := by have h1 := Hx.out.size; have h2 := Hx2.out.size; have h3 := Hx3.out.size; omega
              go_wp2_with fail
              go_upto_region 18 with fail
              refine wp_region_ext V (Keeps.refl _ _) (by kernel_rfl) (by kernel_rfl) ?_
              have hcell := fun (y : XW V) => y.cell
              repeat (go_big_quiet_step (first | (go_at_call 15; with_reducible exact ext_calls (CA.out _ (XW.h _)))))
              refine wpQuiet_nil ?_; rintro _ ⟨yw, rfl⟩
              obtain ⟨Y, hY⟩ : ∃ Y, Y = yw.w := ⟨_, rfl⟩
              have HY := Lib.hid (show Ext Z Y by rw [hY]; exact Hx3.out.trans yw.h)
              rw [← hY]
              clear hY hcell y0 y1 g0 g1 g2 g3 g4
              have HbY := Lib.hid (Hbox.out.ext HY.out)
              have c0 := blk_cell HbY.out 0 rfl
              have c1 := blk_cell HbY.out 1 rfl
              have fc := blk_free HbY.out
              have hgY := (Array.getElem?_eq_some_iff.1 HbY.out).1
              have n0 := (HY.out.cell (p := ⟨bx, ox + m * 3, none⟩) hbx trivial).trans x0
              have HxY := Lib.hid (show Ext W1 Y from Hx2.out.trans HY.out)
              have hs1 : (x.trial == name) = (x.trial.toList == name.toList) := beq_toListBytes _ _
              obtain ⟨ar, har⟩ : ∃ ar, ar = armT t x.person := ⟨_, rfl⟩
              have hs3 : (armT t x.person == a) = (ar.toList == a.toList) := by rw [har]; exact beq_toListBytes _ _
              rw [← har]
              obtain ⟨pp, hpp⟩ : ∃ pp : Nat, pp = pplN t (peopleX (had.take m) name) q := ⟨_, rfl⟩
              rw [← hpp] at HbY c0 c1
              have hple : pp ≤ 1000000 := by
                rw [hpp]
                have h1 : pplN t (peopleX (had.take m) name) q ≤ (peopleX (had.take m) name).length := List.countP_le_length
                have h2 := peopleX_len had name m
                omega
              have Hpp := Lib.hid hpp
              clear har hpp x0 x1
              cases h1 : (x.trial == name)
              · rw [h1] at hs1
                have s1 : (x.trial.toList == name.toList) = false := hs1.symm
                have Hn := Lib.hid (show pplN t (peopleX (had.take (m + 1)) name) q = pp by rw [Hpp.out]; exact pplN_no HX.out (.inl (beq_bytes_false.1 h1)))
                clear hs1 hs3 h1
                go_wp2_with fail
                go_roundw
                case rel => exact ⟨m + 1, by omega, by go_num, by rw [Hn.out]; exact HbY.out, HxY.out⟩
                case measure => simp [intOf]; omega
              · rw [h1] at hs1
                have s1 : (x.trial.toList == name.toList) = true := hs1.symm
                cases fb
                · have Hn := Lib.hid (show pplN t (peopleX (had.take (m + 1)) name) q = pp by
                    rw [Hpp.out]
                    have h9 := Hfb.out
                    exact pplN_no HX.out (.inr (.inl (by cases hw9 : wasX (had.take m) x <;> rw [hw9] at h9 <;> simp at h9 ⊢))))
                  clear hs1 hs3 h1
                  go_wp2_with fail
                  go_roundw
                  case rel => exact ⟨m + 1, by omega, by go_num, by rw [Hn.out]; exact HbY.out, HxY.out⟩
                  case measure => simp [intOf]; omega
                · have Hwas := Lib.hid (show wasX (had.take m) x = false by have h9 := Hfb.out; cases hw9 : wasX (had.take m) x <;> rw [hw9] at h9 <;> simp at h9 ⊢)
                  have Hsame := Lib.hid (arm_same Hnd.out Ha.out (Hinx.out (beq_bytes.1 h1)))
                  have Htr := Lib.hid (beq_bytes.1 h1)
                  cases h3 : (armT t x.person == a)
                  · rw [h3] at hs3
                    have s3 : (ar.toList == a.toList) = false := hs3.symm
                    have Hn := Lib.hid (show pplN t (peopleX (had.take (m + 1)) name) q = pp by
                      rw [Hpp.out]
                      have h9 := Hsame.out
                      rw [h3] at h9
                      exact pplN_no HX.out (.inr (.inr (of_decide_eq_false h9.symm))))
                    clear hs1 hs3 h1 h3
                    go_wp2_with fail
                    go_roundw
                    case rel => exact ⟨m + 1, by omega, by go_num, by rw [Hn.out]; exact HbY.out, HxY.out⟩
                    case measure => simp [intOf]; omega
                  · rw [h3] at hs3
                    have s3 : (ar.toList == a.toList) = true := hs3.symm
                    have Hn := Lib.hid (show pplN t (peopleX (had.take (m + 1)) name) q = pp + 1 by
                      rw [Hpp.out]
                      have h9 := Hsame.out
                      rw [h3] at h9
                      exact pplN_yes HX.out Htr.out Hwas.out (of_decide_eq_true h9.symm))
                    have HbN := Lib.hid (show RBox (Y.setCell ⟨W1.heap.size, 1, none⟩ (.int .i64 ((pp : Int) + 1))) W1.heap.size a ((pp : Int) + 1) 0 0 from blk_set HbY.out 1 _)
                    have HxN := Lib.hid (show Ext W1 (Y.setCell ⟨W1.heap.size, 1, none⟩ (.int .i64 ((pp : Int) + 1))) from Keeps.then_ HxY.out ((Keeps.refl (fun k => k ≠ W1.heap.size) Y).setCell (fun _ h => h rfl) _) (fun k hk _ => by omega))
                    clear hs1 hs3 h1 h3
                    go_wp2_with fail
                    go_roundw
                    case rel => exact ⟨m + 1, by omega, by go_num, by rw [Hn.out]; exact HbN.out, HxN.out⟩
                    case measure => simp [intOf]; omega
        · obtain rfl : k = nx := by omega
          have Htakex := Lib.hid (show had.take k = had from List.take_of_length_le (by have := Hlx.out; omega))
          obtain ⟨PP, hPP⟩ : ∃ PP : Int, PP = (pplN t (peopleX had name) q : Nat) := ⟨_, rfl⟩
          have Hbx : RBox wr W1.heap.size a PP 0 0 := by rw [hPP]; have h9 := Hbox.out; rw [Htakex.out] at h9; exact h9
          have HPP := Lib.hid hPP
          have HbX := Lib.hid Hbx
          obtain ⟨Z, hZ⟩ : ∃ Z, Z = wr := ⟨_, rfl⟩
          rw [← hZ] at HbX Hx2 ⊢
          clear hPP Hbx hZ Hbox hgl
          go_wp2_with fail
          go_loopw [18] (fun i wr' => ∃ k2 : Nat, k2 ≤ na ∧ i = .int .i64 k2 ∧ RBox wr' W1.heap.size a PP (bghtN t (cntL (xsOf had name) (all.take k2)) q : Nat) (wrthN t q (cntL (xsOf had name) (all.take k2))) ∧ Ext W1 wr') (fun i _ => na - (intOf i).toNat)
          case atStart => exact ⟨0, Nat.zero_le _, rfl, HbX.out, Hx2.out⟩
          case round =>
            obtain ⟨k2, hk2, rfl, hb4, hx4⟩ := hrel
            have Hx4 := Lib.hid hx4
            have Hb4 := Lib.hid hb4
            have hgl := (Array.getElem?_eq_some_iff.1 hb4).1
            clear hb4 hx4
            by_cases hkl2 : k2 < na
            · obtain ⟨be, oe, e, rfl, hbe, _, he, r0, r1, r2, r3, r4, r5, r6, r7⟩ := (Hse.out.ext (Hx.out.trans Hx4.out)).ev hkl2
              have He := Lib.hid he
              have Hsm := Lib.hid (HSM.out e (List.mem_of_getElem? he))
              have hpe : e.person.size < maxLen := by have := Hsm.out.person; unfold maxLen; omega
              have k0 : (0 : Int) ≤ (k2 : Int) := by omega
              have k1 : (k2 : Int) < (na : Int) := by omega
              have k3 : (k2 : Int) ≤ (cl : Int) := by omega
              have k4 : (k2 : Int) ≤ (na : Int) := by omega
              obtain ⟨bm, hbm⟩ : ∃ bm, bm = mayE e := ⟨_, rfl⟩
              obtain ⟨bt, hbt⟩ : ∃ bt, bt = (all.take k2).any (fun x => mayE x && sameI x e) := ⟨_, rfl⟩
              have Hbm := Lib.hid hbm
              have Hbt := Lib.hid hbt
              have hsE : (e.person == (⟨#[]⟩ : ByteArray)) = (e.person.toList == (⟨#[]⟩ : ByteArray).toList) := beq_toListBytes _ _
              have CM := Lib.hid (fun (W : World) => show Calls Tryd.prog 42 #[.agg #[.string e.src, .int .i64 e.num, .int .i64 e.tick, .int .i64 e.kind, .string e.person, .string e.item, .int .i64 e.value, .string e.text]] W (fun r w' => r = .returned (.bool bm) ∧ Ext W w') by rw [hbm]; exact ref_May e W Hsm.out)
              have CT := Lib.hid (fun (W : World) (hx : Ext wr W) => show Calls Tryd.prog 43 #[.slice (some ⟨be, oe, none⟩) k2 cl, .agg #[.string e.src, .int .i64 e.num, .int .i64 e.tick, .int .i64 e.kind, .string e.person, .string e.item, .int .i64 e.value, .string e.text]] W (fun r w' => r = .returned (.bool bt) ∧ Ext W w') by rw [hbt]; exact rf_twin _ k2 cl (all.take k2) e ok3 W (((Hse.out.to_ hk2).ext (Hx.out.trans Hx4.out)).ext hx) (by omega) (fun x hx => HSM.out x (List.mem_of_mem_take hx)))
              clear he hbm hbt
              cases bm
              · have Hn := Lib.hid (cntL_stay (xn := xsOf had name) He.out (.inl Hbm.out.symm)).2
                clear hsE
                go_upto_region 25 with fail
                obtain ⟨V, hV⟩ : ∃ V, V = wr.alloc (.cells #[.string e.src, .int .i64 e.num, .int .i64 e.tick, .int .i64 e.kind, .string e.person, .string e.item, .int .i64 e.value, .string e.text] 62) := ⟨_, rfl⟩
                have HV := Lib.hid (show Ext wr V by rw [hV]; exact (Keeps.refl _ _).alloc _)
                have HgE := Lib.hid (show V.heap[wr.heap.size]? = some (.cells #[.string e.src, .int .i64 e.num, .int .i64 e.tick, .int .i64 e.kind, .string e.person, .string e.item, .int .i64 e.value, .string e.text] 62) by rw [hV]; exact blk_new _ _)
                rw [← hV]
                have d0 := blk_cell HgE.out 0 rfl
                have d1 := blk_cell HgE.out 1 rfl
                have d2 := blk_cell HgE.out 2 rfl
                have d3 := blk_cell HgE.out 3 rfl
                have d4 := blk_cell HgE.out 4 rfl
                have d5 := blk_cell HgE.out 5 rfl
                have d6 := blk_cell HgE.out 6 rfl
                have d7 := blk_cell HgE.out 7 rfl
                have hgV := (Array.getElem?_eq_some_iff.1 HgE.out).1
                clear hV
                refine wp_region_ext V (Keeps.refl _ _) (by kernel_rfl) (by kernel_rfl) ?_
                have hcell := fun (y : XW V) => y.cell
                repeat (go_big_quiet_step (first | (go_at_call 42; with_reducible exact ext_calls (CM.out _)) | (go_at_call 43; with_reducible exact ext_calls (CT.out _ (HV.out.trans (XW.h _))))))
                refine wpQuiet_nil ?_; rintro _ ⟨yw, rfl⟩
                obtain ⟨Y, hY⟩ : ∃ Y, Y = yw.w := ⟨_, rfl⟩
                have HY := Lib.hid (show Ext wr Y by rw [hY]; exact HV.out.trans yw.h)
                have HgY := Lib.hid (show Y.heap[wr.heap.size]? = some (.cells #[.string e.src, .int .i64 e.num, .int .i64 e.tick, .int .i64 e.kind, .string e.person, .string e.item, .int .i64 e.value, .string e.text] 62) by rw [hY]; exact Ext.blk yw.h HgE.out)
                rw [← hY]
                clear hY hcell d0 d1 d2 d3 d4 d5 d6 d7
                go_wp2_with fail
                go_roundw
                case rel => exact ⟨k2 + 1, by omega, by go_num, by rw [Hn.out]; exact Hb4.out.ext HY.out, Hx4.out.trans HY.out⟩
                case measure => simp [intOf]; omega
              cases hem : (e.person == (⟨#[]⟩ : ByteArray))
              · rw [hem] at hsE
                have sE : (e.person.toList == (⟨#[]⟩ : ByteArray).toList) = false := hsE.symm
                have sE2 : (e.person.toList == []) = false := by rw [← nilT]; exact sE
                clear hsE hem
                cases bt
                · have Hseen := Lib.hid (show (seenL (all.take k2)).any (fun x => sameI x e) = false by rw [seenL_any]; exact Hbt.out.symm)
                  go_upto_region 25 with fail
                  obtain ⟨V, hV⟩ : ∃ V, V = wr.alloc (.cells #[.string e.src, .int .i64 e.num, .int .i64 e.tick, .int .i64 e.kind, .string e.person, .string e.item, .int .i64 e.value, .string e.text] 62) := ⟨_, rfl⟩
                  have HV := Lib.hid (show Ext wr V by rw [hV]; exact (Keeps.refl _ _).alloc _)
                  have HgE := Lib.hid (show V.heap[wr.heap.size]? = some (.cells #[.string e.src, .int .i64 e.num, .int .i64 e.tick, .int .i64 e.kind, .string e.person, .string e.item, .int .i64 e.value, .string e.text] 62) by rw [hV]; exact blk_new _ _)
                  rw [← hV]
                  have d0 := blk_cell HgE.out 0 rfl
                  have d1 := blk_cell HgE.out 1 rfl
                  have d2 := blk_cell HgE.out 2 rfl
                  have d3 := blk_cell HgE.out 3 rfl
                  have d4 := blk_cell HgE.out 4 rfl
                  have d5 := blk_cell HgE.out 5 rfl
                  have d6 := blk_cell HgE.out 6 rfl
                  have d7 := blk_cell HgE.out 7 rfl
                  have hgV := (Array.getElem?_eq_some_iff.1 HgE.out).1
                  clear hV
                  refine wp_region_ext V (Keeps.refl _ _) (by kernel_rfl) (by kernel_rfl) ?_
                  have hcell := fun (y : XW V) => y.cell
                  repeat (go_big_quiet_step (first | (go_at_call 42; with_reducible exact ext_calls (CM.out _)) | (go_at_call 43; with_reducible exact ext_calls (CT.out _ (HV.out.trans (XW.h _))))))
                  refine wpQuiet_nil ?_; rintro _ ⟨yw, rfl⟩
                  obtain ⟨Y, hY⟩ : ∃ Y, Y = yw.w := ⟨_, rfl⟩
                  have HY := Lib.hid (show Ext wr Y by rw [hY]; exact HV.out.trans yw.h)
                  have HgY := Lib.hid (show Y.heap[wr.heap.size]? = some (.cells #[.string e.src, .int .i64 e.num, .int .i64 e.tick, .int .i64 e.kind, .string e.person, .string e.item, .int .i64 e.value, .string e.text] 62) by rw [hY]; exact Ext.blk yw.h HgE.out)
                  rw [← hY]
                  clear hY hcell d0 d1 d2 d3 d4 d5 d6 d7
                  have HbY := Lib.hid (Hb4.out.ext HY.out)
                  obtain ⟨at_, hat_⟩ : ∃ z, z = sinceX had name e.person := ⟨_, rfl⟩
                  have Hat := Lib.hid hat_
                  clear hat_
                  have CS := Lib.hid (show Calls Tryd.prog 44 #[.slice Ax k cx, .string name, .string e.person] Y (fun r w' => r = .returned (.int .i64 at_) ∧ Y = w') by rw [Hat.out]; exact rf_since Ax k cx had name e.person ok2 Y (Hsx.out.ext (Hx.out.trans (Hx4.out.trans HY.out))) hnx)
                  have v4 := blk_cell HgY.out 4 rfl
                  have v2 := blk_cell HgY.out 2 rfl
                  obtain ⟨g0, g1, g2, g3, g4⟩ := HF.out Y (Hx.out.trans (Hx4.out.trans HY.out))
                  have CA := Lib.hid (fun (W : World) (hx : Ext Y W) => rf_Arm t e.person _ c' _ W ((Hs'.out.ext (Hx.out.trans (Hx4.out.trans HY.out))).ext hx) Hw.out hpe)
                  have hb'Y : b' < Y.heap.size := by have h1 := Hx.out.size; have h2 := Hx4.out.size; have h3 := HY.out.size; omega
                  have hgY := (Array.getElem?_eq_some_iff.1 HgY.out).1
                  go_upto_region 27 with (go_at_call 44; refine CS.out.mono ?_; rintro _ _ ⟨rfl, rfl⟩)
                  refine wp_region_ext Y (Keeps.refl _ _) (by kernel_rfl) (by kernel_rfl) ?_
                  have hcell := fun (y : XW Y) => y.cell
                  repeat (go_big_quiet_step (first | (go_at_call 15; with_reducible exact ext_calls (CA.out _ (XW.h _)))))
                  refine wpQuiet_nil ?_; rintro _ ⟨yw, rfl⟩
                  obtain ⟨U, hU⟩ : ∃ U, U = yw.w := ⟨_, rfl⟩
                  have HU := Lib.hid (show Ext wr U by rw [hU]; exact HY.out.trans yw.h)
                  have HgU := Lib.hid (show U.heap[wr.heap.size]? = some (.cells #[.string e.src, .int .i64 e.num, .int .i64 e.tick, .int .i64 e.kind, .string e.person, .string e.item, .int .i64 e.value, .string e.text] 62) by rw [hU]; exact Ext.blk yw.h HgY.out)
                  rw [← hU]
                  clear hU hcell v2 v4 g0 g1 g2 g3 g4
                  have HbU := Lib.hid (Hb4.out.ext HU.out)
                  have HxU := Lib.hid (show Ext W1 U from Hx4.out.trans HU.out)
                  have c0 := blk_cell HbU.out 0 rfl
                  have u2 := blk_cell HgU.out 2 rfl
                  have u3 := blk_cell HgU.out 3 rfl
                  have hs3 : (armT t e.person == a) = ((armT t e.person).toList == a.toList) := beq_toListBytes _ _
                  obtain ⟨ar, har⟩ : ∃ ar, ar = (armT t e.person) := ⟨_, rfl⟩
                  have hs4 : (armT t e.person == a) = (ar.toList == a.toList) := by rw [har]; exact beq_toListBytes _ _
                  rw [← har]
                  have Hsi := Lib.hid (since_is Htk.out name e.person)
                  clear hs3 har
                  cases hg : getM (fun a b : ByteArray => a == b) (xsOf had name) e.person with
                  | none =>
                    have haz : at_ = -1 := by rw [Hat.out, Hsi.out.1, hg]; rfl
                    subst haz
                    have Hn := Lib.hid (cntL_no (xn := xsOf had name) He.out Hbm.out.symm Hseen.out (show cntX (xsOf had name) e = false by unfold cntX; rw [hg]))
                    clear hs4 hg
                    go_wp2_with fail
                    go_roundw
                    case rel => exact ⟨k2 + 1, by omega, by go_num, by rw [Hn.out]; exact HbU.out, HxU.out⟩
                    case measure => simp [intOf]; omega
                  | some z =>
                    have hz0 := Hsi.out.2 z hg
                    have haz : at_ = z := by rw [Hat.out, Hsi.out.1, hg]; rfl
                    have a1 : ¬ at_ < 0 := by omega
                    have a2 : decide (at_ < 0) = false := by simp; omega
                    by_cases htl : e.tick < at_
                    · have a3 : decide (e.tick < at_) = true := by simpa using htl
                      have Hn := Lib.hid (cntL_no (xn := xsOf had name) He.out Hbm.out.symm Hseen.out (show cntX (xsOf had name) e = false by unfold cntX; rw [hg]; simp only [decide_eq_false_iff_not]; omega))
                      clear hs4 hg haz hz0
                      go_wp2_with fail
                      go_roundw
                      case rel => exact ⟨k2 + 1, by omega, by go_num, by rw [Hn.out]; exact HbU.out, HxU.out⟩
                      case measure => simp [intOf]; omega
                    · have a3 : decide (e.tick < at_) = false := by simpa using htl
                      have Hcn := Lib.hid (cntL_yes (xn := xsOf had name) He.out Hbm.out.symm Hseen.out (show cntX (xsOf had name) e = true by unfold cntX; rw [hg]; simp only [decide_eq_true_eq]; omega))
                      have hinp : inT t e.person = true := by
                        have h1 : e.person ∈ peopleX (had.take k) name := by rw [Htakex.out]; exact List.mem_map_of_mem (f := (·.1)) (getM_mem hg)
                        obtain ⟨y, hy, h2, h3⟩ := (peopleX_mem k had name e.person).1 h1
                        rw [← h3]
                        exact Hin.out y (List.mem_of_mem_take hy) h2
                      have Hsame := Lib.hid (arm_same Hnd.out Ha.out hinp)
                      obtain ⟨bg, hbg⟩ : ∃ bg : Nat, bg = bghtN t (cntL (xsOf had name) (all.take k2)) q := ⟨_, rfl⟩
                      obtain ⟨wz, hwz⟩ : ∃ wz : Int, wz = wrthN t q (cntL (xsOf had name) (all.take k2)) := ⟨_, rfl⟩
                      obtain ⟨we, hwe⟩ : ∃ we : Int, we = worthE e := ⟨_, rfl⟩
                      have b1 := cntL_len (xsOf had name) (all.take k2)
                      have b2 : (all.take k2).length ≤ 1000 := by rw [List.length_take]; omega
                      have b3 := bghtN_len t (cntL (xsOf had name) (all.take k2)) q
                      have b4 := wrthN_in t q _ (cntL_may (xsOf had name) (all.take k2))
                      have b5 := worth_in Hbm.out.symm
                      have Hbght := Lib.hid (show bghtN t (cntL (xsOf had name) (all.take (k2 + 1))) q = bg + (if armNo t e.person = (q : Int) ∧ e.kind = 3 then 1 else 0) by rw [Hcn.out, bght_app, hbg])
                      have Hwrth := Lib.hid (show wrthN t q (cntL (xsOf had name) (all.take (k2 + 1))) = wz + (if armNo t e.person = (q : Int) then we else 0) by rw [Hcn.out, wrthN_app, hwz, hwe])
                      have HbQ0 := Lib.hid (show RBox U W1.heap.size a PP (bg : Int) wz by rw [hbg, hwz]; exact HbU.out)
                      rw [← hbg] at b3
                      rw [← hwz] at b4
                      rw [← hwe] at b5
                      have b6 : bg < 1000000 := by omega
                      have b7 : (-1000000 : Int) < wz ∧ wz < 1000000 := by omega
                      have hwr : IntKind.i64.wrap (wz + we) = wz + we := by rw [IntKind.wrap_i64]; omega
                      have Hwe := Lib.hid hwe
                      clear hg haz hz0 hbg hwz hwe b1 b2 b3 b4 b5 hinp
                      cases h3 : (armT t e.person == a)
                      · rw [h3] at hs4
                        have s3 : (ar.toList == a.toList) = false := hs4.symm
                        have Hne := Lib.hid (show ¬ armNo t e.person = (q : Int) by have h9 := Hsame.out; rw [h3] at h9; exact of_decide_eq_false h9.symm)
                        have Hnb := Lib.hid (show bghtN t (cntL (xsOf had name) (all.take (k2 + 1))) q = bg by rw [Hbght.out, if_neg (fun h => Hne.out h.1), Nat.add_zero])
                        have Hnw := Lib.hid (show wrthN t q (cntL (xsOf had name) (all.take (k2 + 1))) = wz by rw [Hwrth.out, if_neg Hne.out, Int.add_zero])
                        clear hs4 h3
                        go_wp2_with fail
                        go_roundw
                        case rel => exact ⟨k2 + 1, by omega, by go_num, by rw [Hnb.out, Hnw.out]; exact HbQ0.out, HxU.out⟩
                        case measure => simp [intOf]; omega
                      · rw [h3] at hs4
                        have s3 : (ar.toList == a.toList) = true := hs4.symm
                        have Heq := Lib.hid (show armNo t e.person = (q : Int) by have h9 := Hsame.out; rw [h3] at h9; exact of_decide_eq_true h9.symm)
                        have Hnw := Lib.hid (show wrthN t q (cntL (xsOf had name) (all.take (k2 + 1))) = wz + we by rw [Hwrth.out, if_pos Heq.out])
                        have c2 := blk_cell HbQ0.out 2 rfl
                        have fc := blk_free HbQ0.out
                        have hgU0 := (Array.getElem?_eq_some_iff.1 HbQ0.out).1
                        have hne9 : wr.heap.size ≠ W1.heap.size := by omega
                        clear hs4 h3
                        by_cases hk3 : e.kind = 3
                        · have K3 : (e.kind == 3) = true := by simpa using hk3
                          have Hnb := Lib.hid (show ((bghtN t (cntL (xsOf had name) (all.take (k2 + 1))) q : Nat) : Int) = (bg : Int) + 1 by rw [Hbght.out, if_pos ⟨Heq.out, hk3⟩]; rfl)
                          have hkk : Keeps (fun i => i ≠ W1.heap.size) U (U.setCell ⟨W1.heap.size, 2, none⟩ (.int .i64 ((bg : Int) + 1))) := (Keeps.refl _ _).setCell (fun _ h => h rfl) _
                          have HbQ := Lib.hid (show RBox (U.setCell ⟨W1.heap.size, 2, none⟩ (.int .i64 ((bg : Int) + 1))) W1.heap.size a PP ((bg : Int) + 1) wz from blk_set HbQ0.out 2 _)
                          have HgQ := Lib.hid (hkk.blk HgU.out hne9)
                          have HxQ := Lib.hid (show Ext W1 (U.setCell ⟨W1.heap.size, 2, none⟩ (.int .i64 ((bg : Int) + 1))) from Keeps.then_ HxU.out hkk (fun k hk _ => by omega))
                          clear hkk hk3
                          go_upto_region 31 with fail
                          obtain ⟨Q, hQ⟩ : ∃ Q, Q = U.setCell ⟨W1.heap.size, 2, none⟩ (.int .i64 ((bg : Int) + 1)) := ⟨_, rfl⟩
                          rw [← hQ] at HbQ HgQ HxQ ⊢
                          clear hQ c0 c2 u2 u3 fc K3
                          have cz := blk_cell HbQ.out 3 rfl
                          have fz := blk_free HbQ.out
                          have m0 := blk_cell HgQ.out 0 rfl
                          have m1 := blk_cell HgQ.out 1 rfl
                          have m2 := blk_cell HgQ.out 2 rfl
                          have m3 := blk_cell HgQ.out 3 rfl
                          have m4 := blk_cell HgQ.out 4 rfl
                          have m5 := blk_cell HgQ.out 5 rfl
                          have m6 := blk_cell HgQ.out 6 rfl
                          have m7 := blk_cell HgQ.out 7 rfl
                          have hgQ := (Array.getElem?_eq_some_iff.1 HgQ.out).1
                          have hbQ := (Array.getElem?_eq_some_iff.1 HbQ.out).1
                          have CW := Lib.hid (fun (W : World) => show Calls Tryd.prog 45 #[.agg #[.string e.src, .int .i64 e.num, .int .i64 e.tick, .int .i64 e.kind, .string e.person, .string e.item, .int .i64 e.value, .string e.text]] W (fun r w' => r = .returned (.int .i64 we) ∧ Ext W w') by rw [Hwe.out]; exact ref_Worth e W)
                          go_region_with (go_at_call 45; ((with_reducible refine (CW.out _).mono ?_); rintro _ w10 ⟨rfl, hx10⟩; have hrow10 := hx10.blk (g := W1.heap.size) (by exact HbQ.out); have c10 := blk_cell hrow10 3 rfl; have f10 := blk_free hrow10; have hy : Ext Q w10 := Keeps.trans (by repeat (first | with_reducible exact Keeps.refl _ _ | with_reducible refine Keeps.drew ?_ | with_reducible refine Keeps.drewN ?_ _ | with_reducible refine Keeps.alloc ?_ _)) hx10; have Hy := Lib.hid hy; have Hrow10 := Lib.hid hrow10; clear hrow10 hy hx10))
                          all_goals
                            go_wp2_with fail
                            refine ⟨⟨k2 + 1, by omega, by go_num, by rw [Hnb.out, Hnw.out]; exact blk_set Hrow10.out 3 _, Keeps.then_ (HxQ.out.trans Hy.out) ((Keeps.refl (fun k => k ≠ W1.heap.size) _).setCell (fun _ h => h rfl) _) (fun k hk _ => by omega)⟩, ?_⟩
                            simp [intOf]; omega
                        · have K3 : (e.kind == 3) = false := by simpa using hk3
                          have Hnb := Lib.hid (show ((bghtN t (cntL (xsOf had name) (all.take (k2 + 1))) q : Nat) : Int) = (bg : Int) by rw [Hbght.out, if_neg (fun h => hk3 h.2), Nat.add_zero])
                          have HbQ := Lib.hid HbQ0.out
                          have HgQ := Lib.hid HgU.out
                          have HxQ := Lib.hid HxU.out
                          clear hk3
                          go_upto_region 31 with fail
                          obtain ⟨Q, hQ⟩ : ∃ Q, Q = U := ⟨_, rfl⟩
                          rw [← hQ] at HbQ HgQ HxQ ⊢
                          clear hQ c0 c2 u2 u3 fc K3
                          have cz := blk_cell HbQ.out 3 rfl
                          have fz := blk_free HbQ.out
                          have m0 := blk_cell HgQ.out 0 rfl
                          have m1 := blk_cell HgQ.out 1 rfl
                          have m2 := blk_cell HgQ.out 2 rfl
                          have m3 := blk_cell HgQ.out 3 rfl
                          have m4 := blk_cell HgQ.out 4 rfl
                          have m5 := blk_cell HgQ.out 5 rfl
                          have m6 := blk_cell HgQ.out 6 rfl
                          have m7 := blk_cell HgQ.out 7 rfl
                          have hgQ := (Array.getElem?_eq_some_iff.1 HgQ.out).1
                          have hbQ := (Array.getElem?_eq_some_iff.1 HbQ.out).1
                          have CW := Lib.hid (fun (W : World) => show Calls Tryd.prog 45 #[.agg #[.string e.src, .int .i64 e.num, .int .i64 e.tick, .int .i64 e.kind, .string e.person, .string e.item, .int .i64 e.value, .string e.text]] W (fun r w' => r = .returned (.int .i64 we) ∧ Ext W w') by rw [Hwe.out]; exact ref_Worth e W)
                          go_region_with (go_at_call 45; ((with_reducible refine (CW.out _).mono ?_); rintro _ w10 ⟨rfl, hx10⟩; have hrow10 := hx10.blk (g := W1.heap.size) (by exact HbQ.out); have c10 := blk_cell hrow10 3 rfl; have f10 := blk_free hrow10; have hy : Ext Q w10 := Keeps.trans (by repeat (first | with_reducible exact Keeps.refl _ _ | with_reducible refine Keeps.drew ?_ | with_reducible refine Keeps.drewN ?_ _ | with_reducible refine Keeps.alloc ?_ _)) hx10; have Hy := Lib.hid hy; have Hrow10 := Lib.hid hrow10; clear hrow10 hy hx10))
                          all_goals
                            go_wp2_with fail
                            refine ⟨⟨k2 + 1, by omega, by go_num, by rw [Hnb.out, Hnw.out]; exact blk_set Hrow10.out 3 _, Keeps.then_ (HxQ.out.trans Hy.out) ((Keeps.refl (fun k => k ≠ W1.heap.size) _).setCell (fun _ h => h rfl) _) (fun k hk _ => by omega)⟩, ?_⟩
                            simp [intOf]; omega
                · have Hn := Lib.hid (cntL_stay (xn := xsOf had name) He.out (.inr (show (seenL (all.take k2)).any (fun x => sameI x e) = true by rw [seenL_any]; exact Hbt.out.symm))).2
                  go_upto_region 25 with fail
                  obtain ⟨V, hV⟩ : ∃ V, V = wr.alloc (.cells #[.string e.src, .int .i64 e.num, .int .i64 e.tick, .int .i64 e.kind, .string e.person, .string e.item, .int .i64 e.value, .string e.text] 62) := ⟨_, rfl⟩
                  have HV := Lib.hid (show Ext wr V by rw [hV]; exact (Keeps.refl _ _).alloc _)
                  have HgE := Lib.hid (show V.heap[wr.heap.size]? = some (.cells #[.string e.src, .int .i64 e.num, .int .i64 e.tick, .int .i64 e.kind, .string e.person, .string e.item, .int .i64 e.value, .string e.text] 62) by rw [hV]; exact blk_new _ _)
                  rw [← hV]
                  have d0 := blk_cell HgE.out 0 rfl
                  have d1 := blk_cell HgE.out 1 rfl
                  have d2 := blk_cell HgE.out 2 rfl
                  have d3 := blk_cell HgE.out 3 rfl
                  have d4 := blk_cell HgE.out 4 rfl
                  have d5 := blk_cell HgE.out 5 rfl
                  have d6 := blk_cell HgE.out 6 rfl
                  have d7 := blk_cell HgE.out 7 rfl
                  have hgV := (Array.getElem?_eq_some_iff.1 HgE.out).1
                  clear hV
                  refine wp_region_ext V (Keeps.refl _ _) (by kernel_rfl) (by kernel_rfl) ?_
                  have hcell := fun (y : XW V) => y.cell
                  repeat (go_big_quiet_step (first | (go_at_call 42; with_reducible exact ext_calls (CM.out _)) | (go_at_call 43; with_reducible exact ext_calls (CT.out _ (HV.out.trans (XW.h _))))))
                  refine wpQuiet_nil ?_; rintro _ ⟨yw, rfl⟩
                  obtain ⟨Y, hY⟩ : ∃ Y, Y = yw.w := ⟨_, rfl⟩
                  have HY := Lib.hid (show Ext wr Y by rw [hY]; exact HV.out.trans yw.h)
                  have HgY := Lib.hid (show Y.heap[wr.heap.size]? = some (.cells #[.string e.src, .int .i64 e.num, .int .i64 e.tick, .int .i64 e.kind, .string e.person, .string e.item, .int .i64 e.value, .string e.text] 62) by rw [hY]; exact Ext.blk yw.h HgE.out)
                  rw [← hY]
                  clear hY hcell d0 d1 d2 d3 d4 d5 d6 d7
                  go_wp2_with fail
                  go_roundw
                  case rel => exact ⟨k2 + 1, by omega, by go_num, by rw [Hn.out]; exact Hb4.out.ext HY.out, Hx4.out.trans HY.out⟩
                  case measure => simp [intOf]; omega
              · rw [hem] at hsE
                have sE : (e.person.toList == (⟨#[]⟩ : ByteArray).toList) = true := hsE.symm
                have sE2 : (e.person.toList == []) = true := by rw [← nilT]; exact sE
                have Hn := Lib.hid (show cntL (xsOf had name) (all.take (k2 + 1)) = cntL (xsOf had name) (all.take k2) by
                  have hx9 : cntX (xsOf had name) e = false := by unfold cntX; rw [beq_bytes.1 hem, Hemp.out]
                  cases bt
                  · exact cntL_no He.out Hbm.out.symm (by rw [seenL_any]; exact Hbt.out.symm) hx9
                  · exact (cntL_stay He.out (.inr (by rw [seenL_any]; exact Hbt.out.symm))).2)
                clear hsE hem
                go_upto_region 25 with fail
                obtain ⟨V, hV⟩ : ∃ V, V = wr.alloc (.cells #[.string e.src, .int .i64 e.num, .int .i64 e.tick, .int .i64 e.kind, .string e.person, .string e.item, .int .i64 e.value, .string e.text] 62) := ⟨_, rfl⟩
                have HV := Lib.hid (show Ext wr V by rw [hV]; exact (Keeps.refl _ _).alloc _)
                have HgE := Lib.hid (show V.heap[wr.heap.size]? = some (.cells #[.string e.src, .int .i64 e.num, .int .i64 e.tick, .int .i64 e.kind, .string e.person, .string e.item, .int .i64 e.value, .string e.text] 62) by rw [hV]; exact blk_new _ _)
                rw [← hV]
                have d0 := blk_cell HgE.out 0 rfl
                have d1 := blk_cell HgE.out 1 rfl
                have d2 := blk_cell HgE.out 2 rfl
                have d3 := blk_cell HgE.out 3 rfl
                have d4 := blk_cell HgE.out 4 rfl
                have d5 := blk_cell HgE.out 5 rfl
                have d6 := blk_cell HgE.out 6 rfl
                have d7 := blk_cell HgE.out 7 rfl
                have hgV := (Array.getElem?_eq_some_iff.1 HgE.out).1
                clear hV
                refine wp_region_ext V (Keeps.refl _ _) (by kernel_rfl) (by kernel_rfl) ?_
                have hcell := fun (y : XW V) => y.cell
                repeat (go_big_quiet_step (first | (go_at_call 42; with_reducible exact ext_calls (CM.out _)) | (go_at_call 43; with_reducible exact ext_calls (CT.out _ (HV.out.trans (XW.h _))))))
                refine wpQuiet_nil ?_; rintro _ ⟨yw, rfl⟩
                obtain ⟨Y, hY⟩ : ∃ Y, Y = yw.w := ⟨_, rfl⟩
                have HY := Lib.hid (show Ext wr Y by rw [hY]; exact HV.out.trans yw.h)
                have HgY := Lib.hid (show Y.heap[wr.heap.size]? = some (.cells #[.string e.src, .int .i64 e.num, .int .i64 e.tick, .int .i64 e.kind, .string e.person, .string e.item, .int .i64 e.value, .string e.text] 62) by rw [hY]; exact Ext.blk yw.h HgE.out)
                rw [← hY]
                clear hY hcell d0 d1 d2 d3 d4 d5 d6 d7
                go_wp2_with fail
                go_roundw
                case rel => exact ⟨k2 + 1, by omega, by go_num, by rw [Hn.out]; exact Hb4.out.ext HY.out, Hx4.out.trans HY.out⟩
                case measure => simp [intOf]; omega
            · obtain rfl : k2 = na := by omega
              have HtakeA := Lib.hid (show all.take k2 = all from List.take_of_length_le (by have := Hla.out; omega))
              have HbE := Lib.hid (show RBox wr W1.heap.size a PP (bghtN t (cntL (xsOf had name) all) q : Nat) (wrthN t q (cntL (xsOf had name) all)) by have h9 := Hb4.out; rw [HtakeA.out] at h9; exact h9)
              obtain ⟨bE, hbE⟩ : ∃ bE : Int, bE = (bghtN t (cntL (xsOf had name) all) q : Nat) := ⟨_, rfl⟩
              obtain ⟨wE, hwE⟩ : ∃ wE : Int, wE = wrthN t q (cntL (xsOf had name) all) := ⟨_, rfl⟩
              have HbF := Lib.hid (show RBox wr W1.heap.size a PP bE wE by rw [hbE, hwE]; exact HbE.out)
              have HbE2 := Lib.hid hbE
              have HwE2 := Lib.hid hwE
              have c0 := blk_cell HbF.out 0 rfl
              have c1 := blk_cell HbF.out 1 rfl
              have c2 := blk_cell HbF.out 2 rfl
              have c3 := blk_cell HbF.out 3 rfl
              have hx4s := Hx4.out.size
              clear hbE hwE
              go_wp2_with (at_builtin; refine wpList_append_Own (ok := fun _ => True) (R := rwR) _ rfl (.tmp 182) (.tmp 184) 49 rfl 53 z0 _ 40 w.heap.size Tryd.underlying49 hi0 hz0 hz1 hz2 rfl (by decide) rfl ((Hown.out.ext Hx4.out).alloc _) _ 1 1 [⟨a, PP, bE, wE⟩] rfl (Srcs.one_new rfl (blk_new _ _) rfl) (by omega) (by decide) (by simp; omega) ?_; intro A5 c5 w5 hown5 hg5 hat5; have Hext := Lib.hid (show Ext w w5 from Keeps.grown ((Hx.out.trans Hx4.out).alloc _) hg5 (fun g hg hl => by have := (Hown.out.lt g hg).1; omega)); have Hown5 := Lib.hid hown5; clear hown5 hg5 hat5)
              go_roundw
              case rel => exact ⟨q + 1, A5, c5, by omega, by go_num, rfl, by rw [rowsE_take Ha.out, ← HPP.out, ← HbE2.out, ← HwE2.out]; exact Hown5.out, Hext.out⟩
              case measure => simp [intOf]; omega
    · obtain rfl : q = t.arms.length := by omega
      have HT := Lib.hid (List.take_of_length_le (l := rowsE t (peopleX had name) (cntL (xsOf had name) all)) (i := t.arms.length) (by unfold rowsE; simp))
      go_wp2_with fail
      go_ret
      exact ⟨B, cb, rfl, by have h9 := Hown.out; rw [HT.out] at h9; exact h9, Hx.out⟩
end Go.Proofs.YtdkgphambjnbiaaDoor
