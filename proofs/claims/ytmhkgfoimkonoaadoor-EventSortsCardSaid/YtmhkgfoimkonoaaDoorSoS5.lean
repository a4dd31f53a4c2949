/-
  What is proved here: the library's symMerge at a row of events, where the second part is one event. Conditions: at most a million events.
-/
import Derived.Test.YtmhkgfoimkonoaaDoorSoS4
namespace Go.Proofs.YtmhkgfoimkonoaaDoor
open Go Go.RowKit Go.Proofs
attribute [local go_sem ↓] Go.wp_at_zero Go.wp_at_succ
theorem MvAt.back {g o S : Nat} {P V1 R : List Ev} {x z : Ev} {t k : Nat} {w wr : World} (h : MvAt g o S P V1 R x (t + 1) w wr) (ht : t < V1.length) (hz : V1[t]? = some z) (hk : P.length + t + 1 = k) : MvAt g o S P V1 R x t w (set8 (set8 wr g (o + k * 8) z) g (o + (k - 1) * 8) x) := by
  obtain ⟨f1, f2⟩ := MvAt.form (P := P) (R := R) (x := x) ht hz
  have hr := h.row
  rw [f2] at hr
  have hl : (P ++ V1.take t).length = k - 1 := by simp; omega
  have hr2 := Row.set (hr.set (k := k) (by simp; omega) z) (k := k - 1) (by simp; omega) x
  rw [set_swap' (P := P ++ V1.take t) (M := []) (i := k - 1) (j := k) hl (by simp; omega)] at hr2
  exact ⟨by rw [f1]; exact hr2, (h.keep.trans set8_keeps).trans set8_keeps⟩
set_option maxRecDepth 100000 in
set_option maxHeartbeats 8000000 in
theorem sym_B (g o n c S a m b : Nat) (P V Q : List Ev) (x : Ev) (w : World) (hr : Row w g o S (P ++ V ++ x :: Q)) (ha : P.length = a) (hm : a + V.length = m) (hb : m + 1 = b) (hn : (P ++ V ++ x :: Q).length = n) (hsV : Srt lessE V) (h2 : 2 ≤ V.length) (hmax : n ≤ 1000000) :
    Calls Tryd.prog 81 #[.slice (some ⟨g, o, none⟩) n c, .int .i64 (a : Int), .int .i64 (m : Int), .int .i64 (b : Int), .func (.func 33) #[] #[]] w (SymPost g o S P (V ++ [x]) Q w) := by
  have hn' : b + Q.length = n := by rw [← hn]; simp; omega
  have Hr := Lib.hid hr
  have Ha := Lib.hid ha
  have HsV := Lib.hid hsV
  have Hmono := Lib.hid (show ∀ (s t : Nat) (u v : Ev), s ≤ t → V[s]? = some u → V[t]? = some v → (!lessE x v) = true → (!lessE x u) = true from fun s t u v hst hu hv h9 => by
    have h8 := lessE_swo.ntrans (show lessE x v = false by simpa using h9) (srt_at hsV hst hu hv)
    rw [h8]; rfl)
  have t0 : ((m : Int) - (a : Int) == 1) = false := by rw [beq_eq_false_iff_ne]; omega
  have t1 : ((b : Int) - (m : Int) == 1) = true := by rw [beq_iff_eq]; omega
  have hbn : b ≤ n := by omega
  have Hm := Lib.hid hm
  have ham : a ≤ m := by omega
  clear hr ha hn hsV hn' hm h2
  go_enter Tryd.func81, Tryd.ntmps81
  go_wp2_with fail
  go_loopw [14, 15] (fun iv jv wr => ∃ (i j : Nat), a ≤ i ∧ i ≤ j ∧ j ≤ m ∧ iv = .int .i64 (i : Int) ∧ jv = .int .i64 (j : Int) ∧ Seek V (fun y => !lessE x y) (i - a) (j - a) ∧ Ext w wr) (fun iv jv _ => (intOf jv).toNat - (intOf iv).toNat)
  case atStart => exact ⟨a, m, Nat.le_refl _, ham, Nat.le_refl _, rfl, rfl, by have h9 := Seek.start V (fun y => !lessE x y); rw [Nat.sub_self, show m - a = V.length by have := Hm.out; omega]; exact h9, Keeps.refl _ _⟩
  case round =>
    obtain ⟨i, j, hmi, hij, hjb, rfl, rfl, hsk, hx⟩ := hrel
    have Hsk := Lib.hid hsk
    have Hx := Lib.hid hx
    have hrow := Hr.out.ext hx
    clear hsk hx
    by_cases hlt : i < j
    · have hlt' : (i : Int) < (j : Int) := by omega
      obtain ⟨h, hh⟩ : ∃ h : Nat, h = (i + j) / 2 := ⟨_, rfl⟩
      have eh : ((i : Int) + (j : Int)) / 2 = (h : Int) := by omega
      have hh1 : i ≤ h := by omega
      have hh2 : h < j := by omega
      clear hh
      obtain ⟨y, hy⟩ : ∃ y, V[h - a]? = some y := ⟨_, List.getElem?_eq_getElem (by have := Hm.out; omega)⟩
      have hyr : (P ++ V ++ x :: Q)[h]? = some y := by
        have h9 := Ha.out
        rw [List.append_assoc, List.getElem?_append_right (by omega), h9, List.getElem?_append_left (by have := Hm.out; omega)]
        exact hy
      obtain ⟨x0, x1, x2, x3, x4, x5, x6, x7⟩ := hrow.cells (k := m) (e := x) (at_mid (by have := Ha.out; have := Hm.out; simp; omega))
      obtain ⟨y0, y1, y2, y3, y4, y5, y6, y7⟩ := hrow.cells (k := h) (e := y) hyr
      have hgl := hrow.lt
      have CC := Lib.hid (fun (W : World) => ev_Compare x y W)
      have hcn := cmpE_neg (a := x) (b := y)
      obtain ⟨cz, hcz⟩ : ∃ cz, cz = cmpE x y := ⟨_, rfl⟩
      rw [← hcz] at CC hcn
      have k0 : (0 : Int) ≤ (h : Int) := by omega
      have k1 : (h : Int) < (n : Int) := by omega
      have k2 : (0 : Int) ≤ (m : Int) := by omega
      have k3 : (m : Int) < (n : Int) := by omega
      have Hy := Lib.hid hy
      clear hcz hyr hrow hy
      cases hlz : lessE x y
      · rw [hlz] at hcn
        have hcn' : ¬ cz < 0 := by simpa using hcn
        have Hs2 := Lib.hid (Hsk.out.up Hmono.out (show h - a < j - a by omega) Hy.out (by rw [hlz]; rfl))
        clear hcn
        go_upto_region 17 with fail
        refine wp_region_ext wr (Keeps.refl _ _) (by kernel_rfl) (by kernel_rfl) ?_
        have hcell := fun (y : XW wr) => y.cell
        repeat (go_big_quiet_step (first | (go_at_call 33; with_reducible exact ext_calls (CC.out _))))
        refine wpQuiet_nil ?_
        rintro _ ⟨yw, rfl⟩
        clear hcell x0 x1 x2 x3 x4 x5 x6 x7 y0 y1 y2 y3 y4 y5 y6 y7
        go_wp2_with fail
        go_roundw
        case rel => exact ⟨h + 1, j, by omega, by omega, hjb, by go_num, rfl, by rw [show h + 1 - a = h - a + 1 by omega]; exact Hs2.out, Hx.out.trans yw.h⟩
        case measure => simp [intOf]; omega
      · rw [hlz] at hcn
        have hcn' : cz < 0 := by simpa using hcn
        have Hs2 := Lib.hid (Hsk.out.down Hmono.out (show i - a ≤ h - a by omega) (by omega) Hy.out (by rw [hlz]; rfl))
        clear hcn
        go_upto_region 17 with fail
        refine wp_region_ext wr (Keeps.refl _ _) (by kernel_rfl) (by kernel_rfl) ?_
        have hcell := fun (y : XW wr) => y.cell
        repeat (go_big_quiet_step (first | (go_at_call 33; with_reducible exact ext_calls (CC.out _))))
        refine wpQuiet_nil ?_
        rintro _ ⟨yw, rfl⟩
        clear hcell x0 x1 x2 x3 x4 x5 x6 x7 y0 y1 y2 y3 y4 y5 y6 y7
        go_wp2_with fail
        go_roundw
        case rel => exact ⟨i, h, hmi, hh1, by omega, rfl, rfl, Hs2.out, Hx.out.trans yw.h⟩
        case measure => simp [intOf]; omega
    · obtain rfl : i = j := by omega
      obtain ⟨s1, s2⟩ := Hsk.out.parts
      have hVl : (V.drop (i - a)).length = m - i := by rw [List.length_drop]; have := Hm.out; omega
      have hVl1 : (V.take (i - a)).length = i - a := by rw [List.length_take]; have := Hm.out; omega
      have eV := List.take_append_drop (i - a) V
      have HM := Lib.hid (ins_at lessE_swo (x := x) (u := V.take (i - a)) (v := V.drop (i - a)) (by rw [eV]; exact HsV.out) (fun y hy => by simpa using s2 y hy) (fun z hz => by simpa using s1 z (List.mem_of_getLast? hz)))
      have H1 := Lib.hid (show MvAt g o S (P ++ V.take (i - a)) (V.drop (i - a)) Q x (m - i) w wr from ⟨by
        rw [show (V.drop (i - a)).take (m - i) = V.drop (i - a) from List.take_of_length_le (by omega), show (V.drop (i - a)).drop (m - i) = [] from List.drop_eq_nil_of_le (by omega), List.nil_append, List.append_assoc P, eV]
        exact hrow, Hx.out.keeps _⟩)
      have HeV := Lib.hid eV
      generalize V.take (i - a) = V1 at *
      generalize V.drop (i - a) = V2 at *
      have hti : ¬ (i : Int) < (i : Int) := by omega
      clear s1 s2 eV hrow
      go_wp2_with fail
      go_loopw [17] (fun kv wr' => ∃ (t : Nat), t ≤ V2.length ∧ kv = .int .i64 ((i + t : Nat) : Int) ∧ MvAt g o S (P ++ V1) V2 Q x t w wr') (fun kv _ => (intOf kv).toNat)
      case atStart => exact ⟨m - i, by omega, by congr 1; omega, H1.out⟩
      case round =>
        obtain ⟨t, ht, rfl, hmv⟩ := hrel
        have Hmv := Lib.hid hmv
        clear hmv
        obtain ⟨k, hk⟩ : ∃ k, k = i + t := ⟨_, rfl⟩
        rw [← hk]
        have Hk := Lib.hid hk
        rcases Nat.eq_zero_or_pos t with rfl | hpos
        · have q5 : ¬ (i : Int) < (k : Int) := by omega
          have Hend := Lib.hid (show ∃ M, Srt lessE M ∧ Cls lessE (V ++ [x]) M ∧ Row wr g o S (P ++ M ++ Q) ∧ Keeps (fun k => k ≠ g) w wr from ⟨V1 ++ x :: V2, HM.out.1, by rw [← HeV.out]; exact HM.out.2, by
            have h9 := Hmv.out.row
            simpa using h9, Hmv.out.keep⟩)
          clear hk
          go_wp2_with fail
          exact ⟨rfl, .tuple #[], by simp [results, Tryd.results81], rfl, Hend.out⟩
        · obtain ⟨s, rfl⟩ : ∃ s, t = s + 1 := ⟨t - 1, by omega⟩
          have hs9 : s < V2.length := by omega
          obtain ⟨z, hz⟩ : ∃ z, V2[s]? = some z := ⟨_, List.getElem?_eq_getElem hs9⟩
          obtain ⟨_, f2⟩ := MvAt.form (P := P ++ V1) (R := Q) (x := x) hs9 hz
          have hrow := Hmv.out.row
          rw [f2] at hrow
          have e2 : (P ++ V1 ++ V2.take s) ++ z :: [] ++ x :: (V2.drop (s + 1) ++ Q) = (P ++ V1 ++ V2.take s) ++ z :: (x :: (V2.drop (s + 1) ++ Q)) := by simp
          have hl9 : (P ++ V1 ++ V2.take s).length = k - 1 := by have := Ha.out; simp; omega
          obtain ⟨z0, z1, z2, z3, z4, z5, z6, z7⟩ := hrow.cells (k := k - 1) (e := z) (by rw [e2]; exact at_mid hl9)
          obtain ⟨x0, x1, x2, x3, x4, x5, x6, x7⟩ := hrow.cells (k := k) (e := x) (at_mid (by rw [List.length_append, hl9]; simp; omega))
          have hfree := hrow.free
          have Hsw := Lib.hid (Hmv.out.back (k := k) hs9 hz (by have := Ha.out; simp; omega))
          have q0 : (0 : Int) ≤ (k : Int) - 1 := by omega
          have q1 : (k : Int) - 1 < (n : Int) := by omega
          have q2 : IntKind.i64.wrap ((k : Int) - 1) = (k : Int) - 1 := by rw [IntKind.wrap_i64]; omega
          have q3 : (0 : Int) ≤ (k : Int) := by omega
          have q4 : (k : Int) < (n : Int) := by omega
          have q5 : (i : Int) < (k : Int) := by omega
          have q6 : (0 : Int) < (k : Int) := by omega
          clear hz f2 e2 hl9 hrow hk
          go_upto_region 23 with fail
          go_region_with fail
          all_goals
            have hsw := Hsw.out.ext (Keeps.drew (Keeps.refl _ _))
            obtain ⟨Z, hZ⟩ : ∃ Z, Z = (set8 (set8 wr g (o + k * 8) z) g (o + (k - 1) * 8) x).drew := ⟨_, rfl⟩
            rw [← hZ] at hsw
            unfold set8 at hZ
            rw [← hZ]
            have Hz := Lib.hid hsw
            clear hsw hZ x0 x1 x2 x3 x4 x5 x6 x7 z0 z1 z2 z3 z4 z5 z6 z7 hfree
            go_wp2_with fail
            refine ⟨⟨s, by omega, by have := Hk.out; congr 1; omega, Hz.out⟩, ?_⟩
            simp [intOf]; omega
end Go.Proofs.YtmhkgfoimkonoaaDoor
