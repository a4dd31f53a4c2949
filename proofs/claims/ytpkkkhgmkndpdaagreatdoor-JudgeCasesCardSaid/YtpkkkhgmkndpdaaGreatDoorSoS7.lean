/-
  What is proved here: the library's symMerge at a row of events merges two parts that are in order, those at one place as they stood. Conditions: at most a million events.
  the library's symMerge at a row of events merges two parts that are in order, those at one place as they stood. Conditions: at most a million events.
-/
import Derived.Test.YtpkkkhgmkndpdaaGreatDoorSoS1
namespace Go.Proofs.YtpkkkhgmkndpdaaGreatDoor
open Go Go.RowKit Go.Proofs
attribute [local go_sem ↓] Go.wp_at_zero Go.wp_at_succ
set_option maxRecDepth 100000 in
set_option maxHeartbeats 16000000 in
theorem sym_CA (N : Nat) (IH : SymOk N) (g o n c S a m b : Nat) (P U V Q : List Ev) (w : World) (mid lo hi : Nat) (hr : Row w g o S (P ++ U ++ V ++ Q)) (ha : P.length = a) (hn : (P ++ U ++ V ++ Q).length = n) (hU : Srt lessE U) (hV : Srt lessE V) (hbd : Bnds U V a m b mid lo hi) (hc : mid < m) (hlo : lo = mid + m - b) (hhi : mid = hi) (hu2 : 2 ≤ U.length) (hv2 : 2 ≤ V.length) (hmax : n ≤ 1000000) (hN : U.length + V.length ≤ N + 1) :
    Calls Tryz.prog 137 #[.slice (some ⟨g, o, none⟩) n c, .int .i64 (a : Int), .int .i64 (m : Int), .int .i64 (b : Int), .func (.func 46) #[] #[]] w (SymPost g o S P (U ++ V) Q w) := by
  have hm := hbd.hm
  have hb := hbd.hb
  have hmd := hbd.md
  have hn' : b + Q.length = n := by rw [← hn]; simp; omega
  have Hr := Lib.hid hr
  have Ha := Lib.hid ha
  have HU := Lib.hid hU
  have HV := Lib.hid hV
  have Hbd := Lib.hid hbd
  have HUl := Lib.hid (show U.length = m - a by omega)
  have HVl := Lib.hid (show V.length = b - m by omega)
  obtain ⟨N1, hN1⟩ : ∃ N1, N1 = mid + m := ⟨_, rfl⟩
  obtain ⟨q, hq⟩ : ∃ q, q = mid + m - 1 := ⟨_, rfl⟩
  have Hq := Lib.hid hq
  have HN1 := Lib.hid hN1
  have t0 : ((m : Int) - (a : Int) == 1) = false := by rw [beq_eq_false_iff_ne]; omega
  have t1 : ((b : Int) - (m : Int) == 1) = false := by rw [beq_eq_false_iff_ne]; omega
  have e1 : ((a : Int) + (b : Int)) / 2 = (mid : Int) := by omega
  have e2 : (mid : Int) + (m : Int) = (N1 : Int) := by omega
  have e3 : (N1 : Int) - 1 = (q : Int) := by omega
  have hq0 : N1 = q + 1 := by omega
  have Hq0 := Lib.hid hq0
  have hbn : b ≤ n := by omega
  have ham : a + 2 ≤ m := by omega
  have hmb : m + 2 ≤ b := by omega
  have hmid1 : a < mid := by omega
  have hmid2 : mid < b := by omega
  have hbN : b - a ≤ N + 1 := by omega
  obtain ⟨l1, l2, l3, l4, l5, l6⟩ := hbd.le
  subst hhi
  have j1 : (mid : Int) < (m : Int) := by omega
  have j2 : (N1 : Int) - (b : Int) = (lo : Int) := by omega
  have HQl := Lib.hid hn'
  clear hlo
  clear hr ha hn hU hV hbd hm hb hmd hn' hN1 hq hu2 hv2 hN hq0
  go_enter Tryz.func137, Tryz.ntmps137
  go_wp2_with fail
  go_loopw [20, 21] (fun sv rv wr => ∃ (s r : Nat), sv = .int .i64 (s : Int) ∧ rv = .int .i64 (r : Int) ∧ Part U V a m b (mid + m - 1) lo mid s r ∧ Ext w wr) (fun sv rv _ => (intOf rv).toNat - (intOf sv).toNat)
  case atStart => exact ⟨lo, mid, rfl, rfl, Part.start l1, Keeps.refl _ _⟩
  case round =>
    obtain ⟨s, r, rfl, rfl, hpt, hx⟩ := hrel
    have Hpt := Lib.hid hpt
    have Hx := Lib.hid hx
    have p1 := hpt.l1
    have p2 := hpt.l2
    have p3 := hpt.l3
    have hrow := Hr.out.ext hx
    clear hpt hx
    by_cases hlt : s < r
    · have hlt' : (s : Int) < (r : Int) := by omega
      obtain ⟨cc, hcc⟩ : ∃ cc : Nat, cc = (s + r) / 2 := ⟨_, rfl⟩
      have ec : ((s : Int) + (r : Int)) / 2 = (cc : Int) := by omega
      have hc1 : s ≤ cc := by omega
      have hc2 : cc < r := by omega
      clear hcc
      obtain ⟨b1, b2, b3, b4, b5⟩ := Hbd.out.in_ (t := cc) (by omega) (by omega)
      obtain ⟨d, hd⟩ : ∃ d, d = q - cc := ⟨_, rfl⟩
      have hqv := Hq.out
      have ed : (q : Int) - (cc : Int) = (d : Int) := by omega
      have ew : IntKind.i64.wrap ((q : Int) - (cc : Int)) = (d : Int) := by rw [IntKind.wrap_i64]; omega
      obtain ⟨x, hxx⟩ : ∃ x, U[cc - a]? = some x := ⟨_, List.getElem?_eq_getElem (by have := HUl.out; omega)⟩
      obtain ⟨y, hyy⟩ : ∃ y, V[mid + m - 1 - cc - m]? = some y := ⟨_, List.getElem?_eq_getElem (by have := HVl.out; omega)⟩
      obtain ⟨x0, x1, x2, x3, x4, x5, x6, x7⟩ := hrow.cells (k := cc) (e := x) (row_lo Ha.out b1 hxx)
      obtain ⟨y0, y1, y2, y3, y4, y5, y6, y7⟩ := hrow.cells (k := d) (e := y) (row_hi (m := m) (by have := Ha.out; have := HUl.out; simp; omega) (by omega) (by rw [hd, hqv]; exact hyy))
      have hgl := hrow.lt
      have CC := Lib.hid (fun (W : World) => ev_Compare y x W)
      have hcn := cmpE_neg (a := y) (b := x)
      obtain ⟨cz, hcz⟩ : ∃ cz, cz = cmpE y x := ⟨_, rfl⟩
      rw [← hcz] at CC hcn
      have k0 : (0 : Int) ≤ (cc : Int) := by omega
      have k1 : (cc : Int) < (n : Int) := by omega
      have k2 : (0 : Int) ≤ (d : Int) := by omega
      have k3 : (d : Int) < (n : Int) := by omega
      have Hxx := Lib.hid hxx
      have Hyy := Lib.hid hyy
      clear hcz hrow hxx hyy hqv hd b1 b2 b3 b4 b5
      cases hlz : lessE y x
      · rw [hlz] at hcn
        have hcn' : ¬ cz < 0 := by simpa using hcn
        have Hs2 := Lib.hid (Hpt.out.up Hbd.out HU.out HV.out hc1 hc2 Hxx.out Hyy.out hlz)
        clear hcn
        go_upto_region 35 with fail
        refine wp_region_ext wr (Keeps.refl _ _) (by kernel_rfl) (by kernel_rfl) ?_
        have hcell := fun (y : XW wr) => y.cell
        repeat (go_big_quiet_step (first | (go_at_call 46; with_reducible exact ext_calls (CC.out _))))
        refine wpQuiet_nil ?_
        rintro _ ⟨yw, rfl⟩
        clear hcell x0 x1 x2 x3 x4 x5 x6 x7 y0 y1 y2 y3 y4 y5 y6 y7
        go_wp2_with fail
        go_roundw
        case rel => exact ⟨cc + 1, r, by go_num, rfl, Hs2.out, Hx.out.trans yw.h⟩
        case measure => simp [intOf]; omega
      · rw [hlz] at hcn
        have hcn' : cz < 0 := by simpa using hcn
        have Hs2 := Lib.hid (Hpt.out.down Hbd.out HU.out HV.out hc1 hc2 Hxx.out Hyy.out hlz)
        clear hcn
        go_upto_region 35 with fail
        refine wp_region_ext wr (Keeps.refl _ _) (by kernel_rfl) (by kernel_rfl) ?_
        have hcell := fun (y : XW wr) => y.cell
        repeat (go_big_quiet_step (first | (go_at_call 46; with_reducible exact ext_calls (CC.out _))))
        refine wpQuiet_nil ?_
        rintro _ ⟨yw, rfl⟩
        clear hcell x0 x1 x2 x3 x4 x5 x6 x7 y0 y1 y2 y3 y4 y5 y6 y7
        go_wp2_with fail
        go_roundw
        case rel => exact ⟨s, cc, rfl, rfl, Hs2.out, Hx.out.trans yw.h⟩
        case measure => simp [intOf]; omega
    · obtain rfl : s = r := by omega
      obtain ⟨d1, d2⟩ := Hpt.out.done Hbd.out HU.out HV.out
      obtain ⟨e, he⟩ : ∃ e, e = N1 - s := ⟨_, rfl⟩
      have hN := HN1.out
      have ee : (N1 : Int) - (s : Int) = (e : Int) := by omega
      have HeE := Lib.hid (show e + s = mid + m by omega)
      have hem : m ≤ e := by omega
      have heb : e ≤ b := by
        rcases Hbd.out.two with ⟨g1, g2, g3⟩ | ⟨g1, g2, g3⟩ <;> (have := Hbd.out.md; omega)
      have hti : ¬ (s : Int) < (s : Int) := by omega
      have uL := HUl.out
      have vL := HVl.out
      have eU := List.take_append_drop (s - a) U
      have eV := List.take_append_drop (mid - s) V
      have HA1 := Lib.hid (show (U.take (s - a)).length = s - a by rw [List.length_take]; omega)
      have HB1 := Lib.hid (show (U.drop (s - a)).length = m - s by rw [List.length_drop]; omega)
      have HA2 := Lib.hid (show (V.take (mid - s)).length = mid - s by rw [List.length_take]; omega)
      have HB2 := Lib.hid (show (V.drop (mid - s)).length = b - e by rw [List.length_drop]; omega)
      have hUs := HU.out
      rw [← eU] at hUs
      have hVs := HV.out
      rw [← eV] at hVs
      have HsA1 := Lib.hid (srt_app.1 hUs).1
      have HsB1 := Lib.hid (srt_app.1 hUs).2.1
      have HsA2 := Lib.hid (srt_app.1 hVs).1
      have HsB2 := Lib.hid (srt_app.1 hVs).2.1
      have HM := Lib.hid (show ∀ L R : List Ev, Srt lessE L → Cls lessE (U.take (s - a) ++ V.take (mid - s)) L → Srt lessE R → Cls lessE (U.drop (s - a) ++ V.drop (mid - s)) R → Srt lessE (L ++ R) ∧ Cls lessE (U ++ V) (L ++ R) from fun L R h1 h2 h3 h4 => by
        have h9 := merge_two lessE_swo hUs hVs d1 d2 h1 h2 h3 h4
        rw [eU, eV] at h9
        exact h9)
      have HRow := Lib.hid (show Row wr g o S (P ++ (U.take (s - a) ++ U.drop (s - a)) ++ (V.take (mid - s) ++ V.drop (mid - s)) ++ Q) by rw [eU, eV]; exact hrow)
      generalize U.take (s - a) = A1 at *
      generalize U.drop (s - a) = B1 at *
      generalize V.take (mid - s) = A2 at *
      generalize V.drop (mid - s) = B2 at *
      clear d1 d2 he hN uL vL eU eV hUs hVs hrow
      by_cases hs9 : s = mid
      · have f0 : (s : Int) < (m : Int) := by have := HeE.out; omega
        have f1 : ¬ (m : Int) < (e : Int) := by have := HeE.out; omega
        have f2 : (a : Int) < (s : Int) := by have := HeE.out; omega
        have f3 : ¬ (s : Int) < (mid : Int) := by have := HeE.out; omega
        have f4 : (mid : Int) < (e : Int) := by have := HeE.out; omega
        have f5 : (e : Int) < (b : Int) := by have := HeE.out; omega
        clear hs9
        have hz : A2 = [] := List.eq_nil_of_length_eq_zero (by have := HB1.out; have := HA2.out; have := HeE.out; omega)
        have HR1 := Lib.hid (show Row wr g o S (P ++ A1 ++ A2 ++ (B1 ++ B2 ++ Q)) by
          have h9 := HRow.out
          rw [hz] at h9 ⊢; simpa using h9)
        have HK1 := Lib.hid (show Keeps (fun k => k ≠ g) w wr from Hx.out.keeps _)
        clear hz
        have hz : A2 = [] := List.eq_nil_of_length_eq_zero (by have := HA1.out; have := HA2.out; omega)
        obtain ⟨L, hL⟩ : ∃ L, L = A1 ++ A2 := ⟨_, rfl⟩
        have HL := Lib.hid (show Srt lessE L ∧ Cls lessE (A1 ++ A2) L by
          rw [hL]
          refine ⟨?_, Cls.refl _⟩
          rw [hz, List.append_nil]; exact HsA1.out)
        have HR2 := Lib.hid (show Row _ g o S (P ++ L ++ (B1 ++ B2 ++ Q)) by have h9 := HR1.out; rw [hL]; simpa using h9)
        have HK2 := HK1
        clear hz hL HR1 HK1
        have C := Lib.hid (IH g o n c S mid e b (P ++ L) B1 B2 Q _ (by have h9 := HR2.out; simpa using h9) (by rw [List.length_append, HL.out.2.len, List.length_append, HA1.out, HA2.out, Ha.out]; omega) (by have := HB1.out; have := HeE.out; omega) (by have := HB2.out; omega) (by simp only [List.length_append, HL.out.2.len, HA1.out, HA2.out, HB1.out, HB2.out, Ha.out]; have := HQl.out; have := HeE.out; omega) HsB1.out HsB2.out (by have := HB1.out; omega) (by have := HB2.out; omega) hmax (by have := HB1.out; have := HB2.out; omega))
        go_wp2_with fail
        refine C.out.mono ?_
        rintro _ w4 ⟨rfl, R, hR1, hR2, hR3, hK3⟩
        have HR := Lib.hid (And.intro hR1 hR2)
        have HR3 := Lib.hid (show Row w4 g o S (P ++ (L ++ R) ++ Q) by simpa using hR3)
        have HK3 := Lib.hid (HK2.out.trans hK3)
        clear hR1 hR2 hR3 hK3 C
        have HE := Lib.hid (show ∃ M, Srt lessE M ∧ Cls lessE (U ++ V) M ∧ Row _ g o S (P ++ M ++ Q) ∧ Keeps (fun k => k ≠ g) w _ from ⟨L ++ R, (HM.out L R HL.out.1 HL.out.2 HR.out.1 HR.out.2).1, (HM.out L R HL.out.1 HL.out.2 HR.out.1 HR.out.2).2, by have h9 := HR3.out; simpa using h9, HK3.out⟩)
        clear HR3 HK3
        go_wp2_with fail
        exact ⟨rfl, .tuple #[], by simp [results, Tryz.results137], rfl, HE.out⟩
      · by_cases hl9 : a < s
        · by_cases hr9 : e < b
          · have f0 : (s : Int) < (m : Int) := by have := HeE.out; omega
            have f1 : (m : Int) < (e : Int) := by have := HeE.out; omega
            have f2 : (a : Int) < (s : Int) := by have := HeE.out; omega
            have f3 : (s : Int) < (mid : Int) := by have := HeE.out; omega
            have f4 : (mid : Int) < (e : Int) := by have := HeE.out; omega
            have f5 : (e : Int) < (b : Int) := by have := HeE.out; omega
            clear hs9
            have C := Lib.hid (rotate g o n c S s m e (P ++ A1) B1 A2 (B2 ++ Q) wr (by have h9 := HRow.out; simpa using h9) (by have := Ha.out; have := HA1.out; simp; omega) (by have := HB1.out; omega) (by have := HA2.out; have := HeE.out; omega) (by have := HA1.out; have := HA2.out; have := HB1.out; have := HB2.out; have := Ha.out; have := HQl.out; have := HeE.out; simp; omega) (by have := HB1.out; omega) (by have := HA2.out; have := HeE.out; omega) hmax)
            go_wp2_with fail
            refine C.out.mono ?_
            rintro _ w2 ⟨rfl, hr2, hk2⟩
            have HR1 := Lib.hid (show Row w2 g o S (P ++ A1 ++ A2 ++ (B1 ++ B2 ++ Q)) by simpa using hr2)
            have HK1 := Lib.hid (show Keeps (fun k => k ≠ g) w w2 from (Hx.out.keeps _).trans hk2)
            clear hr2 hk2 C
            have C := Lib.hid (IH g o n c S a s mid P A1 A2 (B1 ++ B2 ++ Q) _ (by have h9 := HR1.out; simpa using h9) Ha.out (by have := HA1.out; omega) (by have := HA2.out; omega) (by have := HA1.out; have := HA2.out; have := HB1.out; have := HB2.out; have := Ha.out; have := HQl.out; have := HeE.out; simp; omega) HsA1.out HsA2.out (by have := HA1.out; omega) (by have := HA2.out; omega) hmax (by have := HA1.out; have := HA2.out; omega))
            go_wp2_with fail
            refine C.out.mono ?_
            rintro _ w3 ⟨rfl, L, hL1, hL2, hL3, hK2⟩
            have HL := Lib.hid (And.intro hL1 hL2)
            have HR2 := Lib.hid (show Row w3 g o S (P ++ L ++ (B1 ++ B2 ++ Q)) by simpa using hL3)
            have HK2 := Lib.hid (HK1.out.trans hK2)
            clear hL1 hL2 hL3 hK2 C HR1 HK1
            have C := Lib.hid (IH g o n c S mid e b (P ++ L) B1 B2 Q _ (by have h9 := HR2.out; simpa using h9) (by rw [List.length_append, HL.out.2.len, List.length_append, HA1.out, HA2.out, Ha.out]; omega) (by have := HB1.out; have := HeE.out; omega) (by have := HB2.out; omega) (by simp only [List.length_append, HL.out.2.len, HA1.out, HA2.out, HB1.out, HB2.out, Ha.out]; have := HQl.out; have := HeE.out; omega) HsB1.out HsB2.out (by have := HB1.out; omega) (by have := HB2.out; omega) hmax (by have := HB1.out; have := HB2.out; omega))
            go_wp2_with fail
            refine C.out.mono ?_
            rintro _ w4 ⟨rfl, R, hR1, hR2, hR3, hK3⟩
            have HR := Lib.hid (And.intro hR1 hR2)
            have HR3 := Lib.hid (show Row w4 g o S (P ++ (L ++ R) ++ Q) by simpa using hR3)
            have HK3 := Lib.hid (HK2.out.trans hK3)
            clear hR1 hR2 hR3 hK3 C
            have HE := Lib.hid (show ∃ M, Srt lessE M ∧ Cls lessE (U ++ V) M ∧ Row _ g o S (P ++ M ++ Q) ∧ Keeps (fun k => k ≠ g) w _ from ⟨L ++ R, (HM.out L R HL.out.1 HL.out.2 HR.out.1 HR.out.2).1, (HM.out L R HL.out.1 HL.out.2 HR.out.1 HR.out.2).2, by have h9 := HR3.out; simpa using h9, HK3.out⟩)
            clear HR3 HK3
            go_wp2_with fail
            exact ⟨rfl, .tuple #[], by simp [results, Tryz.results137], rfl, HE.out⟩
          · have f0 : (s : Int) < (m : Int) := by have := HeE.out; omega
            have f1 : (m : Int) < (e : Int) := by have := HeE.out; omega
            have f2 : (a : Int) < (s : Int) := by have := HeE.out; omega
            have f3 : (s : Int) < (mid : Int) := by have := HeE.out; omega
            have f4 : (mid : Int) < (e : Int) := by have := HeE.out; omega
            have f5 : ¬ (e : Int) < (b : Int) := by have := HeE.out; omega
            clear hs9
            have C := Lib.hid (rotate g o n c S s m e (P ++ A1) B1 A2 (B2 ++ Q) wr (by have h9 := HRow.out; simpa using h9) (by have := Ha.out; have := HA1.out; simp; omega) (by have := HB1.out; omega) (by have := HA2.out; have := HeE.out; omega) (by have := HA1.out; have := HA2.out; have := HB1.out; have := HB2.out; have := Ha.out; have := HQl.out; have := HeE.out; simp; omega) (by have := HB1.out; omega) (by have := HA2.out; have := HeE.out; omega) hmax)
            go_wp2_with fail
            refine C.out.mono ?_
            rintro _ w2 ⟨rfl, hr2, hk2⟩
            have HR1 := Lib.hid (show Row w2 g o S (P ++ A1 ++ A2 ++ (B1 ++ B2 ++ Q)) by simpa using hr2)
            have HK1 := Lib.hid (show Keeps (fun k => k ≠ g) w w2 from (Hx.out.keeps _).trans hk2)
            clear hr2 hk2 C
            have C := Lib.hid (IH g o n c S a s mid P A1 A2 (B1 ++ B2 ++ Q) _ (by have h9 := HR1.out; simpa using h9) Ha.out (by have := HA1.out; omega) (by have := HA2.out; omega) (by have := HA1.out; have := HA2.out; have := HB1.out; have := HB2.out; have := Ha.out; have := HQl.out; have := HeE.out; simp; omega) HsA1.out HsA2.out (by have := HA1.out; omega) (by have := HA2.out; omega) hmax (by have := HA1.out; have := HA2.out; omega))
            go_wp2_with fail
            refine C.out.mono ?_
            rintro _ w3 ⟨rfl, L, hL1, hL2, hL3, hK2⟩
            have HL := Lib.hid (And.intro hL1 hL2)
            have HR2 := Lib.hid (show Row w3 g o S (P ++ L ++ (B1 ++ B2 ++ Q)) by simpa using hL3)
            have HK2 := Lib.hid (HK1.out.trans hK2)
            clear hL1 hL2 hL3 hK2 C HR1 HK1
            have hz : B2 = [] := List.eq_nil_of_length_eq_zero (by have := HB1.out; have := HB2.out; have := HeE.out; omega)
            obtain ⟨R, hR⟩ : ∃ R, R = B1 ++ B2 := ⟨_, rfl⟩
            have HR := Lib.hid (show Srt lessE R ∧ Cls lessE (B1 ++ B2) R by
              rw [hR]
              refine ⟨?_, Cls.refl _⟩
              rw [hz, List.append_nil]; exact HsB1.out)
            have HR3 := Lib.hid (show Row _ g o S (P ++ (L ++ R) ++ Q) by have h9 := HR2.out; rw [hR]; simpa using h9)
            have HK3 := HK2
            clear hz hR
            have HE := Lib.hid (show ∃ M, Srt lessE M ∧ Cls lessE (U ++ V) M ∧ Row _ g o S (P ++ M ++ Q) ∧ Keeps (fun k => k ≠ g) w _ from ⟨L ++ R, (HM.out L R HL.out.1 HL.out.2 HR.out.1 HR.out.2).1, (HM.out L R HL.out.1 HL.out.2 HR.out.1 HR.out.2).2, by have h9 := HR3.out; simpa using h9, HK3.out⟩)
            clear HR3 HK3
            go_wp2_with fail
            exact ⟨rfl, .tuple #[], by simp [results, Tryz.results137], rfl, HE.out⟩
        · by_cases hr9 : e < b
          · have f0 : (s : Int) < (m : Int) := by have := HeE.out; omega
            have f1 : (m : Int) < (e : Int) := by have := HeE.out; omega
            have f2 : ¬ (a : Int) < (s : Int) := by have := HeE.out; omega
            have f3 : (mid : Int) < (e : Int) := by have := HeE.out; omega
            have f4 : (e : Int) < (b : Int) := by have := HeE.out; omega
            clear hs9
            have C := Lib.hid (rotate g o n c S s m e (P ++ A1) B1 A2 (B2 ++ Q) wr (by have h9 := HRow.out; simpa using h9) (by have := Ha.out; have := HA1.out; simp; omega) (by have := HB1.out; omega) (by have := HA2.out; have := HeE.out; omega) (by have := HA1.out; have := HA2.out; have := HB1.out; have := HB2.out; have := Ha.out; have := HQl.out; have := HeE.out; simp; omega) (by have := HB1.out; omega) (by have := HA2.out; have := HeE.out; omega) hmax)
            go_wp2_with fail
            refine C.out.mono ?_
            rintro _ w2 ⟨rfl, hr2, hk2⟩
            have HR1 := Lib.hid (show Row w2 g o S (P ++ A1 ++ A2 ++ (B1 ++ B2 ++ Q)) by simpa using hr2)
            have HK1 := Lib.hid (show Keeps (fun k => k ≠ g) w w2 from (Hx.out.keeps _).trans hk2)
            clear hr2 hk2 C
            have hz : A1 = [] := List.eq_nil_of_length_eq_zero (by have := HA1.out; have := HA2.out; omega)
            obtain ⟨L, hL⟩ : ∃ L, L = A1 ++ A2 := ⟨_, rfl⟩
            have HL := Lib.hid (show Srt lessE L ∧ Cls lessE (A1 ++ A2) L by
              rw [hL]
              refine ⟨?_, Cls.refl _⟩
              rw [hz, List.nil_append]; exact HsA2.out)
            have HR2 := Lib.hid (show Row _ g o S (P ++ L ++ (B1 ++ B2 ++ Q)) by have h9 := HR1.out; rw [hL]; simpa using h9)
            have HK2 := HK1
            clear hz hL HR1 HK1
            have C := Lib.hid (IH g o n c S mid e b (P ++ L) B1 B2 Q _ (by have h9 := HR2.out; simpa using h9) (by rw [List.length_append, HL.out.2.len, List.length_append, HA1.out, HA2.out, Ha.out]; omega) (by have := HB1.out; have := HeE.out; omega) (by have := HB2.out; omega) (by simp only [List.length_append, HL.out.2.len, HA1.out, HA2.out, HB1.out, HB2.out, Ha.out]; have := HQl.out; have := HeE.out; omega) HsB1.out HsB2.out (by have := HB1.out; omega) (by have := HB2.out; omega) hmax (by have := HB1.out; have := HB2.out; omega))
            go_wp2_with fail
            refine C.out.mono ?_
            rintro _ w4 ⟨rfl, R, hR1, hR2, hR3, hK3⟩
            have HR := Lib.hid (And.intro hR1 hR2)
            have HR3 := Lib.hid (show Row w4 g o S (P ++ (L ++ R) ++ Q) by simpa using hR3)
            have HK3 := Lib.hid (HK2.out.trans hK3)
            clear hR1 hR2 hR3 hK3 C
            have HE := Lib.hid (show ∃ M, Srt lessE M ∧ Cls lessE (U ++ V) M ∧ Row _ g o S (P ++ M ++ Q) ∧ Keeps (fun k => k ≠ g) w _ from ⟨L ++ R, (HM.out L R HL.out.1 HL.out.2 HR.out.1 HR.out.2).1, (HM.out L R HL.out.1 HL.out.2 HR.out.1 HR.out.2).2, by have h9 := HR3.out; simpa using h9, HK3.out⟩)
            clear HR3 HK3
            go_wp2_with fail
            exact ⟨rfl, .tuple #[], by simp [results, Tryz.results137], rfl, HE.out⟩
          · have f0 : (s : Int) < (m : Int) := by have := HeE.out; omega
            have f1 : (m : Int) < (e : Int) := by have := HeE.out; omega
            have f2 : ¬ (a : Int) < (s : Int) := by have := HeE.out; omega
            have f3 : (mid : Int) < (e : Int) := by have := HeE.out; omega
            have f4 : ¬ (e : Int) < (b : Int) := by have := HeE.out; omega
            clear hs9
            have C := Lib.hid (rotate g o n c S s m e (P ++ A1) B1 A2 (B2 ++ Q) wr (by have h9 := HRow.out; simpa using h9) (by have := Ha.out; have := HA1.out; simp; omega) (by have := HB1.out; omega) (by have := HA2.out; have := HeE.out; omega) (by have := HA1.out; have := HA2.out; have := HB1.out; have := HB2.out; have := Ha.out; have := HQl.out; have := HeE.out; simp; omega) (by have := HB1.out; omega) (by have := HA2.out; have := HeE.out; omega) hmax)
            go_wp2_with fail
            refine C.out.mono ?_
            rintro _ w2 ⟨rfl, hr2, hk2⟩
            have HR1 := Lib.hid (show Row w2 g o S (P ++ A1 ++ A2 ++ (B1 ++ B2 ++ Q)) by simpa using hr2)
            have HK1 := Lib.hid (show Keeps (fun k => k ≠ g) w w2 from (Hx.out.keeps _).trans hk2)
            clear hr2 hk2 C
            have hz : A1 = [] := List.eq_nil_of_length_eq_zero (by have := HA1.out; have := HA2.out; omega)
            obtain ⟨L, hL⟩ : ∃ L, L = A1 ++ A2 := ⟨_, rfl⟩
            have HL := Lib.hid (show Srt lessE L ∧ Cls lessE (A1 ++ A2) L by
              rw [hL]
              refine ⟨?_, Cls.refl _⟩
              rw [hz, List.nil_append]; exact HsA2.out)
            have HR2 := Lib.hid (show Row _ g o S (P ++ L ++ (B1 ++ B2 ++ Q)) by have h9 := HR1.out; rw [hL]; simpa using h9)
            have HK2 := HK1
            clear hz hL HR1 HK1
            have hz : B2 = [] := List.eq_nil_of_length_eq_zero (by have := HB1.out; have := HB2.out; have := HeE.out; omega)
            obtain ⟨R, hR⟩ : ∃ R, R = B1 ++ B2 := ⟨_, rfl⟩
            have HR := Lib.hid (show Srt lessE R ∧ Cls lessE (B1 ++ B2) R by
              rw [hR]
              refine ⟨?_, Cls.refl _⟩
              rw [hz, List.append_nil]; exact HsB1.out)
            have HR3 := Lib.hid (show Row _ g o S (P ++ (L ++ R) ++ Q) by have h9 := HR2.out; rw [hR]; simpa using h9)
            have HK3 := HK2
            clear hz hR
            have HE := Lib.hid (show ∃ M, Srt lessE M ∧ Cls lessE (U ++ V) M ∧ Row _ g o S (P ++ M ++ Q) ∧ Keeps (fun k => k ≠ g) w _ from ⟨L ++ R, (HM.out L R HL.out.1 HL.out.2 HR.out.1 HR.out.2).1, (HM.out L R HL.out.1 HL.out.2 HR.out.1 HR.out.2).2, by have h9 := HR3.out; simpa using h9, HK3.out⟩)
            clear HR3 HK3
            go_wp2_with fail
            exact ⟨rfl, .tuple #[], by simp [results, Tryz.results137], rfl, HE.out⟩
end Go.Proofs.YtpkkkhgmkndpdaaGreatDoor
namespace Go.Proofs.YtpkkkhgmkndpdaaGreatDoor
open Go Go.RowKit Go.Proofs
attribute [local go_sem ↓] Go.wp_at_zero Go.wp_at_succ
set_option maxRecDepth 100000 in
set_option maxHeartbeats 16000000 in
theorem sym_CB (N : Nat) (IH : SymOk N) (g o n c S a m b : Nat) (P U V Q : List Ev) (w : World) (mid lo hi : Nat) (hr : Row w g o S (P ++ U ++ V ++ Q)) (ha : P.length = a) (hn : (P ++ U ++ V ++ Q).length = n) (hU : Srt lessE U) (hV : Srt lessE V) (hbd : Bnds U V a m b mid lo hi) (hc : m ≤ mid) (hlo : a = lo) (hhi : m = hi) (hu2 : 2 ≤ U.length) (hv2 : 2 ≤ V.length) (hmax : n ≤ 1000000) (hN : U.length + V.length ≤ N + 1) :
    Calls Tryz.prog 137 #[.slice (some ⟨g, o, none⟩) n c, .int .i64 (a : Int), .int .i64 (m : Int), .int .i64 (b : Int), .func (.func 46) #[] #[]] w (SymPost g o S P (U ++ V) Q w) := by
  have hm := hbd.hm
  have hb := hbd.hb
  have hmd := hbd.md
  have hn' : b + Q.length = n := by rw [← hn]; simp; omega
  have Hr := Lib.hid hr
  have Ha := Lib.hid ha
  have HU := Lib.hid hU
  have HV := Lib.hid hV
  have Hbd := Lib.hid hbd
  have HUl := Lib.hid (show U.length = m - a by omega)
  have HVl := Lib.hid (show V.length = b - m by omega)
  obtain ⟨N1, hN1⟩ : ∃ N1, N1 = mid + m := ⟨_, rfl⟩
  obtain ⟨q, hq⟩ : ∃ q, q = mid + m - 1 := ⟨_, rfl⟩
  have Hq := Lib.hid hq
  have HN1 := Lib.hid hN1
  have t0 : ((m : Int) - (a : Int) == 1) = false := by rw [beq_eq_false_iff_ne]; omega
  have t1 : ((b : Int) - (m : Int) == 1) = false := by rw [beq_eq_false_iff_ne]; omega
  have e1 : ((a : Int) + (b : Int)) / 2 = (mid : Int) := by omega
  have e2 : (mid : Int) + (m : Int) = (N1 : Int) := by omega
  have e3 : (N1 : Int) - 1 = (q : Int) := by omega
  have hq0 : N1 = q + 1 := by omega
  have Hq0 := Lib.hid hq0
  have hbn : b ≤ n := by omega
  have ham : a + 2 ≤ m := by omega
  have hmb : m + 2 ≤ b := by omega
  have hmid1 : a < mid := by omega
  have hmid2 : mid < b := by omega
  have hbN : b - a ≤ N + 1 := by omega
  obtain ⟨l1, l2, l3, l4, l5, l6⟩ := hbd.le
  subst hhi
  subst hlo
  have j1 : ¬ (mid : Int) < (m : Int) := by omega
  have HQl := Lib.hid hn'
  clear hr ha hn hU hV hbd hm hb hmd hn' hN1 hq hu2 hv2 hN hq0
  go_enter Tryz.func137, Tryz.ntmps137
  go_wp2_with fail
  go_loopw [20, 21] (fun sv rv wr => ∃ (s r : Nat), sv = .int .i64 (s : Int) ∧ rv = .int .i64 (r : Int) ∧ Part U V a m b (mid + m - 1) a m s r ∧ Ext w wr) (fun sv rv _ => (intOf rv).toNat - (intOf sv).toNat)
  case atStart => exact ⟨a, m, rfl, rfl, Part.start l1, Keeps.refl _ _⟩
  case round =>
    obtain ⟨s, r, rfl, rfl, hpt, hx⟩ := hrel
    have Hpt := Lib.hid hpt
    have Hx := Lib.hid hx
    have p1 := hpt.l1
    have p2 := hpt.l2
    have p3 := hpt.l3
    have hrow := Hr.out.ext hx
    clear hpt hx
    by_cases hlt : s < r
    · have hlt' : (s : Int) < (r : Int) := by omega
      obtain ⟨cc, hcc⟩ : ∃ cc : Nat, cc = (s + r) / 2 := ⟨_, rfl⟩
      have ec : ((s : Int) + (r : Int)) / 2 = (cc : Int) := by omega
      have hc1 : s ≤ cc := by omega
      have hc2 : cc < r := by omega
      clear hcc
      obtain ⟨b1, b2, b3, b4, b5⟩ := Hbd.out.in_ (t := cc) (by omega) (by omega)
      obtain ⟨d, hd⟩ : ∃ d, d = q - cc := ⟨_, rfl⟩
      have hqv := Hq.out
      have ed : (q : Int) - (cc : Int) = (d : Int) := by omega
      have ew : IntKind.i64.wrap ((q : Int) - (cc : Int)) = (d : Int) := by rw [IntKind.wrap_i64]; omega
      obtain ⟨x, hxx⟩ : ∃ x, U[cc - a]? = some x := ⟨_, List.getElem?_eq_getElem (by have := HUl.out; omega)⟩
      obtain ⟨y, hyy⟩ : ∃ y, V[mid + m - 1 - cc - m]? = some y := ⟨_, List.getElem?_eq_getElem (by have := HVl.out; omega)⟩
      obtain ⟨x0, x1, x2, x3, x4, x5, x6, x7⟩ := hrow.cells (k := cc) (e := x) (row_lo Ha.out b1 hxx)
      obtain ⟨y0, y1, y2, y3, y4, y5, y6, y7⟩ := hrow.cells (k := d) (e := y) (row_hi (m := m) (by have := Ha.out; have := HUl.out; simp; omega) (by omega) (by rw [hd, hqv]; exact hyy))
      have hgl := hrow.lt
      have CC := Lib.hid (fun (W : World) => ev_Compare y x W)
      have hcn := cmpE_neg (a := y) (b := x)
      obtain ⟨cz, hcz⟩ : ∃ cz, cz = cmpE y x := ⟨_, rfl⟩
      rw [← hcz] at CC hcn
      have k0 : (0 : Int) ≤ (cc : Int) := by omega
      have k1 : (cc : Int) < (n : Int) := by omega
      have k2 : (0 : Int) ≤ (d : Int) := by omega
      have k3 : (d : Int) < (n : Int) := by omega
      have Hxx := Lib.hid hxx
      have Hyy := Lib.hid hyy
      clear hcz hrow hxx hyy hqv hd b1 b2 b3 b4 b5
      cases hlz : lessE y x
      · rw [hlz] at hcn
        have hcn' : ¬ cz < 0 := by simpa using hcn
        have Hs2 := Lib.hid (Hpt.out.up Hbd.out HU.out HV.out hc1 hc2 Hxx.out Hyy.out hlz)
        clear hcn
        go_upto_region 35 with fail
        refine wp_region_ext wr (Keeps.refl _ _) (by kernel_rfl) (by kernel_rfl) ?_
        have hcell := fun (y : XW wr) => y.cell
        repeat (go_big_quiet_step (first | (go_at_call 46; with_reducible exact ext_calls (CC.out _))))
        refine wpQuiet_nil ?_
        rintro _ ⟨yw, rfl⟩
        clear hcell x0 x1 x2 x3 x4 x5 x6 x7 y0 y1 y2 y3 y4 y5 y6 y7
        go_wp2_with fail
        go_roundw
        case rel => exact ⟨cc + 1, r, by go_num, rfl, Hs2.out, Hx.out.trans yw.h⟩
        case measure => simp [intOf]; omega
      · rw [hlz] at hcn
        have hcn' : cz < 0 := by simpa using hcn
        have Hs2 := Lib.hid (Hpt.out.down Hbd.out HU.out HV.out hc1 hc2 Hxx.out Hyy.out hlz)
        clear hcn
        go_upto_region 35 with fail
        refine wp_region_ext wr (Keeps.refl _ _) (by kernel_rfl) (by kernel_rfl) ?_
        have hcell := fun (y : XW wr) => y.cell
        repeat (go_big_quiet_step (first | (go_at_call 46; with_reducible exact ext_calls (CC.out _))))
        refine wpQuiet_nil ?_
        rintro _ ⟨yw, rfl⟩
        clear hcell x0 x1 x2 x3 x4 x5 x6 x7 y0 y1 y2 y3 y4 y5 y6 y7
        go_wp2_with fail
        go_roundw
        case rel => exact ⟨s, cc, rfl, rfl, Hs2.out, Hx.out.trans yw.h⟩
        case measure => simp [intOf]; omega
    · obtain rfl : s = r := by omega
      obtain ⟨d1, d2⟩ := Hpt.out.done Hbd.out HU.out HV.out
      obtain ⟨e, he⟩ : ∃ e, e = N1 - s := ⟨_, rfl⟩
      have hN := HN1.out
      have ee : (N1 : Int) - (s : Int) = (e : Int) := by omega
      have HeE := Lib.hid (show e + s = mid + m by omega)
      have hem : m ≤ e := by omega
      have heb : e ≤ b := by
        rcases Hbd.out.two with ⟨g1, g2, g3⟩ | ⟨g1, g2, g3⟩ <;> (have := Hbd.out.md; omega)
      have hti : ¬ (s : Int) < (s : Int) := by omega
      have uL := HUl.out
      have vL := HVl.out
      have eU := List.take_append_drop (s - a) U
      have eV := List.take_append_drop (mid - s) V
      have HA1 := Lib.hid (show (U.take (s - a)).length = s - a by rw [List.length_take]; omega)
      have HB1 := Lib.hid (show (U.drop (s - a)).length = m - s by rw [List.length_drop]; omega)
      have HA2 := Lib.hid (show (V.take (mid - s)).length = mid - s by rw [List.length_take]; omega)
      have HB2 := Lib.hid (show (V.drop (mid - s)).length = b - e by rw [List.length_drop]; omega)
      have hUs := HU.out
      rw [← eU] at hUs
      have hVs := HV.out
      rw [← eV] at hVs
      have HsA1 := Lib.hid (srt_app.1 hUs).1
      have HsB1 := Lib.hid (srt_app.1 hUs).2.1
      have HsA2 := Lib.hid (srt_app.1 hVs).1
      have HsB2 := Lib.hid (srt_app.1 hVs).2.1
      have HM := Lib.hid (show ∀ L R : List Ev, Srt lessE L → Cls lessE (U.take (s - a) ++ V.take (mid - s)) L → Srt lessE R → Cls lessE (U.drop (s - a) ++ V.drop (mid - s)) R → Srt lessE (L ++ R) ∧ Cls lessE (U ++ V) (L ++ R) from fun L R h1 h2 h3 h4 => by
        have h9 := merge_two lessE_swo hUs hVs d1 d2 h1 h2 h3 h4
        rw [eU, eV] at h9
        exact h9)
      have HRow := Lib.hid (show Row wr g o S (P ++ (U.take (s - a) ++ U.drop (s - a)) ++ (V.take (mid - s) ++ V.drop (mid - s)) ++ Q) by rw [eU, eV]; exact hrow)
      generalize U.take (s - a) = A1 at *
      generalize U.drop (s - a) = B1 at *
      generalize V.take (mid - s) = A2 at *
      generalize V.drop (mid - s) = B2 at *
      clear d1 d2 he hN uL vL eU eV hUs hVs hrow
      by_cases hs9 : s = m
      · by_cases hl9 : s < mid
        · have f0 : ¬ (s : Int) < (m : Int) := by have := HeE.out; omega
          have f1 : (a : Int) < (s : Int) := by have := HeE.out; omega
          have f2 : (s : Int) < (mid : Int) := by have := HeE.out; omega
          have f3 : ¬ (mid : Int) < (e : Int) := by have := HeE.out; omega
          clear hs9
          have hz : B1 = [] := List.eq_nil_of_length_eq_zero (by have := HB1.out; have := HA2.out; have := HeE.out; omega)
          have HR1 := Lib.hid (show Row wr g o S (P ++ A1 ++ A2 ++ (B1 ++ B2 ++ Q)) by
            have h9 := HRow.out
            rw [hz] at h9 ⊢; simpa using h9)
          have HK1 := Lib.hid (show Keeps (fun k => k ≠ g) w wr from Hx.out.keeps _)
          clear hz
          have C := Lib.hid (IH g o n c S a s mid P A1 A2 (B1 ++ B2 ++ Q) _ (by have h9 := HR1.out; simpa using h9) Ha.out (by have := HA1.out; omega) (by have := HA2.out; omega) (by have := HA1.out; have := HA2.out; have := HB1.out; have := HB2.out; have := Ha.out; have := HQl.out; have := HeE.out; simp; omega) HsA1.out HsA2.out (by have := HA1.out; omega) (by have := HA2.out; omega) hmax (by have := HA1.out; have := HA2.out; omega))
          go_wp2_with fail
          refine C.out.mono ?_
          rintro _ w3 ⟨rfl, L, hL1, hL2, hL3, hK2⟩
          have HL := Lib.hid (And.intro hL1 hL2)
          have HR2 := Lib.hid (show Row w3 g o S (P ++ L ++ (B1 ++ B2 ++ Q)) by simpa using hL3)
          have HK2 := Lib.hid (HK1.out.trans hK2)
          clear hL1 hL2 hL3 hK2 C HR1 HK1
          have hz : B1 = [] := List.eq_nil_of_length_eq_zero (by have := HB1.out; have := HB2.out; have := HeE.out; omega)
          obtain ⟨R, hR⟩ : ∃ R, R = B1 ++ B2 := ⟨_, rfl⟩
          have HR := Lib.hid (show Srt lessE R ∧ Cls lessE (B1 ++ B2) R by
            rw [hR]
            refine ⟨?_, Cls.refl _⟩
            rw [hz, List.nil_append]; exact HsB2.out)
          have HR3 := Lib.hid (show Row _ g o S (P ++ (L ++ R) ++ Q) by have h9 := HR2.out; rw [hR]; simpa using h9)
          have HK3 := HK2
          clear hz hR
          have HE := Lib.hid (show ∃ M, Srt lessE M ∧ Cls lessE (U ++ V) M ∧ Row _ g o S (P ++ M ++ Q) ∧ Keeps (fun k => k ≠ g) w _ from ⟨L ++ R, (HM.out L R HL.out.1 HL.out.2 HR.out.1 HR.out.2).1, (HM.out L R HL.out.1 HL.out.2 HR.out.1 HR.out.2).2, by have h9 := HR3.out; simpa using h9, HK3.out⟩)
          clear HR3 HK3
          go_wp2_with fail
          exact ⟨rfl, .tuple #[], by simp [results, Tryz.results137], rfl, HE.out⟩
        · have f0 : ¬ (s : Int) < (m : Int) := by have := HeE.out; omega
          have f1 : (a : Int) < (s : Int) := by have := HeE.out; omega
          have f2 : ¬ (s : Int) < (mid : Int) := by have := HeE.out; omega
          have f3 : ¬ (mid : Int) < (e : Int) := by have := HeE.out; omega
          clear hs9
          have hz : B1 = [] := List.eq_nil_of_length_eq_zero (by have := HB1.out; have := HA2.out; have := HeE.out; omega)
          have HR1 := Lib.hid (show Row wr g o S (P ++ A1 ++ A2 ++ (B1 ++ B2 ++ Q)) by
            have h9 := HRow.out
            rw [hz] at h9 ⊢; simpa using h9)
          have HK1 := Lib.hid (show Keeps (fun k => k ≠ g) w wr from Hx.out.keeps _)
          clear hz
          have hz : A2 = [] := List.eq_nil_of_length_eq_zero (by have := HA1.out; have := HA2.out; omega)
          obtain ⟨L, hL⟩ : ∃ L, L = A1 ++ A2 := ⟨_, rfl⟩
          have HL := Lib.hid (show Srt lessE L ∧ Cls lessE (A1 ++ A2) L by
            rw [hL]
            refine ⟨?_, Cls.refl _⟩
            rw [hz, List.append_nil]; exact HsA1.out)
          have HR2 := Lib.hid (show Row _ g o S (P ++ L ++ (B1 ++ B2 ++ Q)) by have h9 := HR1.out; rw [hL]; simpa using h9)
          have HK2 := HK1
          clear hz hL HR1 HK1
          have hz : B1 = [] := List.eq_nil_of_length_eq_zero (by have := HB1.out; have := HB2.out; have := HeE.out; omega)
          obtain ⟨R, hR⟩ : ∃ R, R = B1 ++ B2 := ⟨_, rfl⟩
          have HR := Lib.hid (show Srt lessE R ∧ Cls lessE (B1 ++ B2) R by
            rw [hR]
            refine ⟨?_, Cls.refl _⟩
            rw [hz, List.nil_append]; exact HsB2.out)
          have HR3 := Lib.hid (show Row _ g o S (P ++ (L ++ R) ++ Q) by have h9 := HR2.out; rw [hR]; simpa using h9)
          have HK3 := HK2
          clear hz hR
          have HE := Lib.hid (show ∃ M, Srt lessE M ∧ Cls lessE (U ++ V) M ∧ Row _ g o S (P ++ M ++ Q) ∧ Keeps (fun k => k ≠ g) w _ from ⟨L ++ R, (HM.out L R HL.out.1 HL.out.2 HR.out.1 HR.out.2).1, (HM.out L R HL.out.1 HL.out.2 HR.out.1 HR.out.2).2, by have h9 := HR3.out; simpa using h9, HK3.out⟩)
          clear HR3 HK3
          go_wp2_with fail
          exact ⟨rfl, .tuple #[], by simp [results, Tryz.results137], rfl, HE.out⟩
      · by_cases hl9 : a < s
        · by_cases hr9 : e < b
          · have f0 : (s : Int) < (m : Int) := by have := HeE.out; omega
            have f1 : (m : Int) < (e : Int) := by have := HeE.out; omega
            have f2 : (a : Int) < (s : Int) := by have := HeE.out; omega
            have f3 : (s : Int) < (mid : Int) := by have := HeE.out; omega
            have f4 : (mid : Int) < (e : Int) := by have := HeE.out; omega
            have f5 : (e : Int) < (b : Int) := by have := HeE.out; omega
            clear hs9
            have C := Lib.hid (rotate g o n c S s m e (P ++ A1) B1 A2 (B2 ++ Q) wr (by have h9 := HRow.out; simpa using h9) (by have := Ha.out; have := HA1.out; simp; omega) (by have := HB1.out; omega) (by have := HA2.out; have := HeE.out; omega) (by have := HA1.out; have := HA2.out; have := HB1.out; have := HB2.out; have := Ha.out; have := HQl.out; have := HeE.out; simp; omega) (by have := HB1.out; omega) (by have := HA2.out; have := HeE.out; omega) hmax)
            go_wp2_with fail
            refine C.out.mono ?_
            rintro _ w2 ⟨rfl, hr2, hk2⟩
            have HR1 := Lib.hid (show Row w2 g o S (P ++ A1 ++ A2 ++ (B1 ++ B2 ++ Q)) by simpa using hr2)
            have HK1 := Lib.hid (show Keeps (fun k => k ≠ g) w w2 from (Hx.out.keeps _).trans hk2)
            clear hr2 hk2 C
            have C := Lib.hid (IH g o n c S a s mid P A1 A2 (B1 ++ B2 ++ Q) _ (by have h9 := HR1.out; simpa using h9) Ha.out (by have := HA1.out; omega) (by have := HA2.out; omega) (by have := HA1.out; have := HA2.out; have := HB1.out; have := HB2.out; have := Ha.out; have := HQl.out; have := HeE.out; simp; omega) HsA1.out HsA2.out (by have := HA1.out; omega) (by have := HA2.out; omega) hmax (by have := HA1.out; have := HA2.out; omega))
            go_wp2_with fail
            refine C.out.mono ?_
            rintro _ w3 ⟨rfl, L, hL1, hL2, hL3, hK2⟩
            have HL := Lib.hid (And.intro hL1 hL2)
            have HR2 := Lib.hid (show Row w3 g o S (P ++ L ++ (B1 ++ B2 ++ Q)) by simpa using hL3)
            have HK2 := Lib.hid (HK1.out.trans hK2)
            clear hL1 hL2 hL3 hK2 C HR1 HK1
            have C := Lib.hid (IH g o n c S mid e b (P ++ L) B1 B2 Q _ (by have h9 := HR2.out; simpa using h9) (by rw [List.length_append, HL.out.2.len, List.length_append, HA1.out, HA2.out, Ha.out]; omega) (by have := HB1.out; have := HeE.out; omega) (by have := HB2.out; omega) (by simp only [List.length_append, HL.out.2.len, HA1.out, HA2.out, HB1.out, HB2.out, Ha.out]; have := HQl.out; have := HeE.out; omega) HsB1.out HsB2.out (by have := HB1.out; omega) (by have := HB2.out; omega) hmax (by have := HB1.out; have := HB2.out; omega))
            go_wp2_with fail
            refine C.out.mono ?_
            rintro _ w4 ⟨rfl, R, hR1, hR2, hR3, hK3⟩
            have HR := Lib.hid (And.intro hR1 hR2)
            have HR3 := Lib.hid (show Row w4 g o S (P ++ (L ++ R) ++ Q) by simpa using hR3)
            have HK3 := Lib.hid (HK2.out.trans hK3)
            clear hR1 hR2 hR3 hK3 C
            have HE := Lib.hid (show ∃ M, Srt lessE M ∧ Cls lessE (U ++ V) M ∧ Row _ g o S (P ++ M ++ Q) ∧ Keeps (fun k => k ≠ g) w _ from ⟨L ++ R, (HM.out L R HL.out.1 HL.out.2 HR.out.1 HR.out.2).1, (HM.out L R HL.out.1 HL.out.2 HR.out.1 HR.out.2).2, by have h9 := HR3.out; simpa using h9, HK3.out⟩)
            clear HR3 HK3
            go_wp2_with fail
            exact ⟨rfl, .tuple #[], by simp [results, Tryz.results137], rfl, HE.out⟩
          · have f0 : (s : Int) < (m : Int) := by have := HeE.out; omega
            have f1 : (m : Int) < (e : Int) := by have := HeE.out; omega
            have f2 : (a : Int) < (s : Int) := by have := HeE.out; omega
            have f3 : (s : Int) < (mid : Int) := by have := HeE.out; omega
            have f4 : (mid : Int) < (e : Int) := by have := HeE.out; omega
            have f5 : ¬ (e : Int) < (b : Int) := by have := HeE.out; omega
            clear hs9
            have C := Lib.hid (rotate g o n c S s m e (P ++ A1) B1 A2 (B2 ++ Q) wr (by have h9 := HRow.out; simpa using h9) (by have := Ha.out; have := HA1.out; simp; omega) (by have := HB1.out; omega) (by have := HA2.out; have := HeE.out; omega) (by have := HA1.out; have := HA2.out; have := HB1.out; have := HB2.out; have := Ha.out; have := HQl.out; have := HeE.out; simp; omega) (by have := HB1.out; omega) (by have := HA2.out; have := HeE.out; omega) hmax)
            go_wp2_with fail
            refine C.out.mono ?_
            rintro _ w2 ⟨rfl, hr2, hk2⟩
            have HR1 := Lib.hid (show Row w2 g o S (P ++ A1 ++ A2 ++ (B1 ++ B2 ++ Q)) by simpa using hr2)
            have HK1 := Lib.hid (show Keeps (fun k => k ≠ g) w w2 from (Hx.out.keeps _).trans hk2)
            clear hr2 hk2 C
            have C := Lib.hid (IH g o n c S a s mid P A1 A2 (B1 ++ B2 ++ Q) _ (by have h9 := HR1.out; simpa using h9) Ha.out (by have := HA1.out; omega) (by have := HA2.out; omega) (by have := HA1.out; have := HA2.out; have := HB1.out; have := HB2.out; have := Ha.out; have := HQl.out; have := HeE.out; simp; omega) HsA1.out HsA2.out (by have := HA1.out; omega) (by have := HA2.out; omega) hmax (by have := HA1.out; have := HA2.out; omega))
            go_wp2_with fail
            refine C.out.mono ?_
            rintro _ w3 ⟨rfl, L, hL1, hL2, hL3, hK2⟩
            have HL := Lib.hid (And.intro hL1 hL2)
            have HR2 := Lib.hid (show Row w3 g o S (P ++ L ++ (B1 ++ B2 ++ Q)) by simpa using hL3)
            have HK2 := Lib.hid (HK1.out.trans hK2)
            clear hL1 hL2 hL3 hK2 C HR1 HK1
            have hz : B2 = [] := List.eq_nil_of_length_eq_zero (by have := HB1.out; have := HB2.out; have := HeE.out; omega)
            obtain ⟨R, hR⟩ : ∃ R, R = B1 ++ B2 := ⟨_, rfl⟩
            have HR := Lib.hid (show Srt lessE R ∧ Cls lessE (B1 ++ B2) R by
              rw [hR]
              refine ⟨?_, Cls.refl _⟩
              rw [hz, List.append_nil]; exact HsB1.out)
            have HR3 := Lib.hid (show Row _ g o S (P ++ (L ++ R) ++ Q) by have h9 := HR2.out; rw [hR]; simpa using h9)
            have HK3 := HK2
            clear hz hR
            have HE := Lib.hid (show ∃ M, Srt lessE M ∧ Cls lessE (U ++ V) M ∧ Row _ g o S (P ++ M ++ Q) ∧ Keeps (fun k => k ≠ g) w _ from ⟨L ++ R, (HM.out L R HL.out.1 HL.out.2 HR.out.1 HR.out.2).1, (HM.out L R HL.out.1 HL.out.2 HR.out.1 HR.out.2).2, by have h9 := HR3.out; simpa using h9, HK3.out⟩)
            clear HR3 HK3
            go_wp2_with fail
            exact ⟨rfl, .tuple #[], by simp [results, Tryz.results137], rfl, HE.out⟩
        · by_cases hr9 : e < b
          · have f0 : (s : Int) < (m : Int) := by have := HeE.out; omega
            have f1 : (m : Int) < (e : Int) := by have := HeE.out; omega
            have f2 : ¬ (a : Int) < (s : Int) := by have := HeE.out; omega
            have f3 : (mid : Int) < (e : Int) := by have := HeE.out; omega
            have f4 : (e : Int) < (b : Int) := by have := HeE.out; omega
            clear hs9
            have C := Lib.hid (rotate g o n c S s m e (P ++ A1) B1 A2 (B2 ++ Q) wr (by have h9 := HRow.out; simpa using h9) (by have := Ha.out; have := HA1.out; simp; omega) (by have := HB1.out; omega) (by have := HA2.out; have := HeE.out; omega) (by have := HA1.out; have := HA2.out; have := HB1.out; have := HB2.out; have := Ha.out; have := HQl.out; have := HeE.out; simp; omega) (by have := HB1.out; omega) (by have := HA2.out; have := HeE.out; omega) hmax)
            go_wp2_with fail
            refine C.out.mono ?_
            rintro _ w2 ⟨rfl, hr2, hk2⟩
            have HR1 := Lib.hid (show Row w2 g o S (P ++ A1 ++ A2 ++ (B1 ++ B2 ++ Q)) by simpa using hr2)
            have HK1 := Lib.hid (show Keeps (fun k => k ≠ g) w w2 from (Hx.out.keeps _).trans hk2)
            clear hr2 hk2 C
            have hz : A1 = [] := List.eq_nil_of_length_eq_zero (by have := HA1.out; have := HA2.out; omega)
            obtain ⟨L, hL⟩ : ∃ L, L = A1 ++ A2 := ⟨_, rfl⟩
            have HL := Lib.hid (show Srt lessE L ∧ Cls lessE (A1 ++ A2) L by
              rw [hL]
              refine ⟨?_, Cls.refl _⟩
              rw [hz, List.nil_append]; exact HsA2.out)
            have HR2 := Lib.hid (show Row _ g o S (P ++ L ++ (B1 ++ B2 ++ Q)) by have h9 := HR1.out; rw [hL]; simpa using h9)
            have HK2 := HK1
            clear hz hL HR1 HK1
            have C := Lib.hid (IH g o n c S mid e b (P ++ L) B1 B2 Q _ (by have h9 := HR2.out; simpa using h9) (by rw [List.length_append, HL.out.2.len, List.length_append, HA1.out, HA2.out, Ha.out]; omega) (by have := HB1.out; have := HeE.out; omega) (by have := HB2.out; omega) (by simp only [List.length_append, HL.out.2.len, HA1.out, HA2.out, HB1.out, HB2.out, Ha.out]; have := HQl.out; have := HeE.out; omega) HsB1.out HsB2.out (by have := HB1.out; omega) (by have := HB2.out; omega) hmax (by have := HB1.out; have := HB2.out; omega))
            go_wp2_with fail
            refine C.out.mono ?_
            rintro _ w4 ⟨rfl, R, hR1, hR2, hR3, hK3⟩
            have HR := Lib.hid (And.intro hR1 hR2)
            have HR3 := Lib.hid (show Row w4 g o S (P ++ (L ++ R) ++ Q) by simpa using hR3)
            have HK3 := Lib.hid (HK2.out.trans hK3)
            clear hR1 hR2 hR3 hK3 C
            have HE := Lib.hid (show ∃ M, Srt lessE M ∧ Cls lessE (U ++ V) M ∧ Row _ g o S (P ++ M ++ Q) ∧ Keeps (fun k => k ≠ g) w _ from ⟨L ++ R, (HM.out L R HL.out.1 HL.out.2 HR.out.1 HR.out.2).1, (HM.out L R HL.out.1 HL.out.2 HR.out.1 HR.out.2).2, by have h9 := HR3.out; simpa using h9, HK3.out⟩)
            clear HR3 HK3
            go_wp2_with fail
            exact ⟨rfl, .tuple #[], by simp [results, Tryz.results137], rfl, HE.out⟩
          · have f0 : (s : Int) < (m : Int) := by have := HeE.out; omega
            have f1 : (m : Int) < (e : Int) := by have := HeE.out; omega
            have f2 : ¬ (a : Int) < (s : Int) := by have := HeE.out; omega
            have f3 : (mid : Int) < (e : Int) := by have := HeE.out; omega
            have f4 : ¬ (e : Int) < (b : Int) := by have := HeE.out; omega
            clear hs9
            have C := Lib.hid (rotate g o n c S s m e (P ++ A1) B1 A2 (B2 ++ Q) wr (by have h9 := HRow.out; simpa using h9) (by have := Ha.out; have := HA1.out; simp; omega) (by have := HB1.out; omega) (by have := HA2.out; have := HeE.out; omega) (by have := HA1.out; have := HA2.out; have := HB1.out; have := HB2.out; have := Ha.out; have := HQl.out; have := HeE.out; simp; omega) (by have := HB1.out; omega) (by have := HA2.out; have := HeE.out; omega) hmax)
            go_wp2_with fail
            refine C.out.mono ?_
            rintro _ w2 ⟨rfl, hr2, hk2⟩
            have HR1 := Lib.hid (show Row w2 g o S (P ++ A1 ++ A2 ++ (B1 ++ B2 ++ Q)) by simpa using hr2)
            have HK1 := Lib.hid (show Keeps (fun k => k ≠ g) w w2 from (Hx.out.keeps _).trans hk2)
            clear hr2 hk2 C
            have hz : A1 = [] := List.eq_nil_of_length_eq_zero (by have := HA1.out; have := HA2.out; omega)
            obtain ⟨L, hL⟩ : ∃ L, L = A1 ++ A2 := ⟨_, rfl⟩
            have HL := Lib.hid (show Srt lessE L ∧ Cls lessE (A1 ++ A2) L by
              rw [hL]
              refine ⟨?_, Cls.refl _⟩
              rw [hz, List.nil_append]; exact HsA2.out)
            have HR2 := Lib.hid (show Row _ g o S (P ++ L ++ (B1 ++ B2 ++ Q)) by have h9 := HR1.out; rw [hL]; simpa using h9)
            have HK2 := HK1
            clear hz hL HR1 HK1
            have hz : B2 = [] := List.eq_nil_of_length_eq_zero (by have := HB1.out; have := HB2.out; have := HeE.out; omega)
            obtain ⟨R, hR⟩ : ∃ R, R = B1 ++ B2 := ⟨_, rfl⟩
            have HR := Lib.hid (show Srt lessE R ∧ Cls lessE (B1 ++ B2) R by
              rw [hR]
              refine ⟨?_, Cls.refl _⟩
              rw [hz, List.append_nil]; exact HsB1.out)
            have HR3 := Lib.hid (show Row _ g o S (P ++ (L ++ R) ++ Q) by have h9 := HR2.out; rw [hR]; simpa using h9)
            have HK3 := HK2
            clear hz hR
            have HE := Lib.hid (show ∃ M, Srt lessE M ∧ Cls lessE (U ++ V) M ∧ Row _ g o S (P ++ M ++ Q) ∧ Keeps (fun k => k ≠ g) w _ from ⟨L ++ R, (HM.out L R HL.out.1 HL.out.2 HR.out.1 HR.out.2).1, (HM.out L R HL.out.1 HL.out.2 HR.out.1 HR.out.2).2, by have h9 := HR3.out; simpa using h9, HK3.out⟩)
            clear HR3 HK3
            go_wp2_with fail
            exact ⟨rfl, .tuple #[], by simp [results, Tryz.results137], rfl, HE.out⟩
end Go.Proofs.YtpkkkhgmkndpdaaGreatDoor
