/-
  What is proved here: the library's stable sort of a row of events puts it in order, those at one place as they stood. Conditions: at most a hundred thousand events.
-/
import Derived.Test.YtmhkgfoimkonoaaDoorSoS8
namespace Go.Proofs.YtmhkgfoimkonoaaDoor
open Go Go.RowKit Go.Proofs
attribute [local go_sem ↓] Go.wp_at_zero Go.wp_at_succ
structure StAt (g o S n : Nat) (l d : List Ev) (w wr : World) : Prop where
  cls : Cls lessE l d
  row : Row wr g o S d
  keep : Keeps (fun k => k ≠ g) w wr
  len : d.length = n
theorem StAt.mid {g o S n : Nat} {l d : List Ev} {w wr wr' : World} (h : StAt g o S n l d w wr) {P X M Q : List Ev} (hd : d = P ++ X ++ Q) (hc : Cls lessE X M) (hr : Row wr' g o S (P ++ M ++ Q)) (hk : Keeps (fun k => k ≠ g) wr wr') : StAt g o S n l (P ++ M ++ Q) w wr' := by
  have h1 := h.cls
  rw [hd] at h1
  refine ⟨h1.trans (cls_mid hc), hr, h.keep.trans hk, ?_⟩
  rw [← h.len, hd]
  have := hc.len
  simp; omega
set_option maxRecDepth 100000 in
set_option maxHeartbeats 8000000 in
theorem stable_sort (g o n c S : Nat) (l : List Ev) (w : World) (hr : Row w g o S l) (hn : l.length = n) (hmax : n ≤ 100000) :
    Calls Tryd.prog 56 #[.slice (some ⟨g, o, none⟩) n c, .int .i64 (n : Int), .func (.func 33) #[] #[]] w (fun e w' => e = .returned (.tuple #[]) ∧ ∃ d, Srt lessE d ∧ StAt g o S n l d w w') := by
  have H0 := Lib.hid (show StAt g o S n l l w w from ⟨Cls.refl _, hr, Keeps.refl _ _, hn⟩)
  clear hr hn
  go_enter Tryd.func56, Tryd.ntmps56
  go_wp2_with fail
  go_loopw [7, 8] (fun av bv wr => ∃ (t A B : Nat) (d : List Ev), A = t * 20 ∧ B = A + 20 ∧ A ≤ n ∧ av = .int .i64 (A : Int) ∧ bv = .int .i64 (B : Int) ∧ Blk lessE 20 t d ∧ StAt g o S n l d w wr) (fun _ bv _ => n + 20 - (intOf bv).toNat)
  case atStart => exact ⟨0, 0, 20, l, rfl, rfl, Nat.zero_le _, rfl, rfl, fun _ h9 => by omega, H0.out⟩
  case round =>
    obtain ⟨t, A, B, d, hA, hB, hAn, rfl, rfl, hblk, hst⟩ := hrel
    have Hblk := Lib.hid hblk
    have Hst := Lib.hid hst
    have HA := Lib.hid hA
    have hdl := hst.len
    by_cases hBn : B ≤ n
    · have hd := seg_split d A 20
      have hXl : (seg d A 20).length = 20 := by rw [seg_len]; omega
      have hPl : (d.take A).length = A := by rw [List.length_take]; omega
      have C := Lib.hid (ins_sort g o n c S A B (d.take A) (seg d A 20) (d.drop (A + 20)) wr (by rw [← hd]; exact hst.row) hPl (by rw [hXl, hB]) (by rw [← hd]; exact hdl) (by omega))
      have Hd := Lib.hid hd
      have HXl := Lib.hid hXl
      have k1 : (B : Int) ≤ (n : Int) := by omega
      have Hbb := Lib.hid hB
      clear hd hXl hPl hblk hst hA hB
      go_wp2_with fail
      refine C.out.mono ?_
      rintro _ w2 ⟨rfl, M, m1, m2, m3, m4⟩
      have Hn := Lib.hid (show Blk lessE 20 (t + 1) (d.take A ++ M ++ d.drop (A + 20)) ∧ StAt g o S n l (d.take A ++ M ++ d.drop (A + 20)) w w2 from ⟨by
        have h9 := Hblk.out.step (M := M) (by rw [← HA.out, hdl]; have := Hbb.out; omega) (by rw [m2.len, HXl.out]) m1
        rw [← HA.out] at h9
        exact h9, Hst.out.mid Hd.out m2 m3 m4⟩)
      clear m1 m2 m3 m4 C
      go_wp2_with fail
      go_roundw
      case rel => exact ⟨t + 1, B, B + 20, _, by have := HA.out; have := Hbb.out; omega, rfl, hBn, rfl, by go_num, Hn.out.1, Hn.out.2⟩
      case measure => simp [intOf]; omega
    · have hd : d = d.take A ++ d.drop A ++ [] := by rw [List.append_nil, List.take_append_drop]
      have hPl : (d.take A).length = A := by rw [List.length_take]; omega
      have hXl : (d.drop A).length = n - A := by rw [List.length_drop, hdl]
      have C := Lib.hid (ins_sort g o n c S A n (d.take A) (d.drop A) [] wr (by rw [← hd]; exact hst.row) hPl (by rw [hXl]; omega) (by rw [← hd]; exact hdl) (by omega))
      have Hd := Lib.hid hd
      have HXl := Lib.hid hXl
      have k1 : ¬ (B : Int) ≤ (n : Int) := by omega
      have Hbb := Lib.hid hB
      clear hd hXl hPl hblk hst hA hB
      go_wp2_with fail
      refine C.out.mono ?_
      rintro _ w2 ⟨rfl, M, m1, m2, m3, m4⟩
      have Hn := Lib.hid (show (∀ s, Srt lessE (seg (d.take A ++ M) (s * 20) 20)) ∧ StAt g o S n l (d.take A ++ M) w w2 from ⟨by
        have h9 := Hblk.out.last (M := M) (by rw [← HA.out, hdl]; exact hAn) (by rw [← HA.out, hdl]; have := Hbb.out; omega) (by rw [m2.len, HXl.out, ← HA.out, hdl]) m1
        rw [← HA.out] at h9
        exact h9, by have h9 := Hst.out.mid Hd.out m2 m3 m4; simpa using h9⟩)
      generalize d.take A ++ M = D at *
      clear m1 m2 m3 m4 C Hd HXl Hbb Hblk Hst
      go_wp2_with fail
      go_loopw [6] (fun bv wr' => ∃ (bs : Nat) (d2 : List Ev), 0 < bs ∧ bs ≤ 2 * n + 20 ∧ bv = .int .i64 (bs : Int) ∧ (∀ s, Srt lessE (seg d2 (s * bs) bs)) ∧ StAt g o S n l d2 w wr') (fun bv _ => 2 * n + 40 - (intOf bv).toNat)
      case atStart => exact ⟨20, D, by omega, by omega, rfl, Hn.out.1, Hn.out.2⟩
      case round =>
        obtain ⟨bs, d2, hb0, hb1, rfl, hsg, hst2⟩ := hrel
        have Hst2 := Lib.hid hst2
        have Hsg := Lib.hid hsg
        have hd2 := hst2.len
        clear hst2 hsg
        by_cases hlt : bs < n
        · have hlt' : (bs : Int) < (n : Int) := by omega
          go_wp2_with fail
          go_loopw [7, 8] (fun av bv wr' => ∃ (t A B : Nat) (d3 : List Ev), A = t * (2 * bs) ∧ B = A + 2 * bs ∧ A ≤ n ∧ av = .int .i64 (A : Int) ∧ bv = .int .i64 (B : Int) ∧ Mrg lessE bs t d3 ∧ StAt g o S n l d3 w wr') (fun _ bv _ => 3 * n + 40 - (intOf bv).toNat)
          case atStart => exact ⟨0, 0, 2 * bs, d2, by omega, by omega, Nat.zero_le _, rfl, by go_num, Mrg.zero Hsg.out, Hst2.out⟩
          case round =>
            obtain ⟨t3, A3, B3, d3, hA3, hB3, hAn3, rfl, rfl, hmg, hst3⟩ := hrel
            have hd3 := hst3.len
            have hparts := hmg.parts
            rw [← hA3] at hparts
            have hPl : (d3.take A3).length = A3 := by rw [List.length_take]; omega
            have HA3 := Lib.hid hA3
            have HB3 := Lib.hid hB3
            have Hmg := Lib.hid hmg
            have Hst3 := Lib.hid hst3
            by_cases hBn : B3 ≤ n
            · have hd := seg_two d3 A3 bs bs
              have hUl : (seg d3 A3 bs).length = bs := by rw [seg_len]; omega
              have hVl : (seg d3 (A3 + bs) bs).length = bs := by rw [seg_len]; omega
              have C := sym_merge g o n c S A3 (A3 + bs) B3 (d3.take A3) (seg d3 A3 bs) (seg d3 (A3 + bs) bs) (d3.drop (A3 + bs + bs)) wr (by rw [← hd]; exact hst3.row) hPl (by rw [hUl]) (by rw [hVl]; omega) (by rw [← hd]; exact hd3) hparts.1 hparts.2 (by omega) (by omega) (by omega)
              rw [show ((A3 + bs : Nat) : Int) = (A3 : Int) + (bs : Int) by omega] at C
              have C := Lib.hid C
              have Hd := Lib.hid (show d3 = d3.take A3 ++ (seg d3 A3 bs ++ seg d3 (A3 + bs) bs) ++ d3.drop (A3 + 2 * bs) by rw [← List.append_assoc (d3.take A3), show A3 + 2 * bs = A3 + bs + bs by omega]; exact hd)
              have HUV := Lib.hid (show (seg d3 A3 bs ++ seg d3 (A3 + bs) bs).length = 2 * bs by rw [List.length_append, hUl, hVl]; omega)
              have k1 : (B3 : Int) ≤ (n : Int) := by omega
              clear hd hUl hVl hPl hparts hmg hst3 hA3 hB3
              go_wp2_with fail
              refine C.out.mono ?_
              rintro _ w2 ⟨rfl, M2, m1, m2, m3, m4⟩
              have Hn2 := Lib.hid (show Mrg lessE bs (t3 + 1) (d3.take A3 ++ M2 ++ d3.drop (A3 + 2 * bs)) ∧ StAt g o S n l (d3.take A3 ++ M2 ++ d3.drop (A3 + 2 * bs)) w w2 from ⟨by
                have h9 := Hmg.out.step (M := M2) (by rw [← HA3.out, hd3]; have := HB3.out; omega) (by rw [m2.len, HUV.out]) m1
                rw [← HA3.out] at h9
                exact h9, Hst3.out.mid Hd.out m2 (by rw [show A3 + 2 * bs = A3 + bs + bs by omega]; exact m3) m4⟩)
              clear m1 m2 m3 m4 C
              go_wp2_with fail
              go_roundw
              case rel => exact ⟨t3 + 1, B3, B3 + 2 * bs, _, by have := HA3.out; have := HB3.out; rw [Nat.add_mul, Nat.one_mul]; omega, rfl, hBn, rfl, by go_num, Hn2.out.1, Hn2.out.2⟩
              case measure => simp [intOf]; omega
            · have k1 : ¬ (B3 : Int) ≤ (n : Int) := by omega
              by_cases hm3 : A3 + bs < n
              · have hd : d3 = d3.take A3 ++ seg d3 A3 bs ++ d3.drop (A3 + bs) ++ [] := by rw [List.append_nil]; exact seg_split d3 A3 bs
                have hUl : (seg d3 A3 bs).length = bs := by rw [seg_len]; omega
                have hVl : (d3.drop (A3 + bs)).length = n - (A3 + bs) := by rw [List.length_drop, hd3]
                have hVs : Srt lessE (d3.drop (A3 + bs)) := by have h9 := hparts.2; rw [seg_rest (by omega)] at h9; exact h9
                have C := sym_merge g o n c S A3 (A3 + bs) n (d3.take A3) (seg d3 A3 bs) (d3.drop (A3 + bs)) [] wr (by rw [← hd]; exact hst3.row) hPl (by rw [hUl]) (by rw [hVl]; omega) (by rw [← hd]; exact hd3) hparts.1 hVs (by omega) (by omega) (by omega)
                rw [show ((A3 + bs : Nat) : Int) = (A3 : Int) + (bs : Int) by omega] at C
                have C := Lib.hid C
                have Hd := Lib.hid (show d3 = d3.take A3 ++ (seg d3 A3 bs ++ d3.drop (A3 + bs)) ++ [] by rw [← List.append_assoc (d3.take A3)]; exact hd)
                have HUV := Lib.hid (show (seg d3 A3 bs ++ d3.drop (A3 + bs)).length = n - A3 by rw [List.length_append, hUl, hVl]; omega)
                have k2 : (A3 : Int) + (bs : Int) < (n : Int) := by omega
                clear hd hUl hVl hVs hPl hparts hmg hst3 hA3 hB3
                go_wp2_with fail
                refine C.out.mono ?_
                rintro _ w2 ⟨rfl, M2, m1, m2, m3, m4⟩
                have Hn2 := Lib.hid (show (∀ s, Srt lessE (seg (d3.take A3 ++ M2) (s * (2 * bs)) (2 * bs))) ∧ StAt g o S n l (d3.take A3 ++ M2) w w2 from ⟨by
                  have h9 := Hmg.out.tail (M := M2) (by rw [← HA3.out, hd3]; have := HB3.out; omega) (by rw [← HA3.out, hd3]; exact hAn3) (by rw [m2.len, HUV.out, ← HA3.out, hd3]) m1
                  rw [← HA3.out] at h9
                  exact h9, by have h9 := Hst3.out.mid Hd.out m2 m3 m4; simpa using h9⟩)
                clear m1 m2 m3 m4 C
                go_wp2_with fail
                go_roundw
                case rel => exact ⟨2 * bs, _, by omega, by omega, by congr 1; omega, Hn2.out.1, Hn2.out.2⟩
                case measure => simp [intOf]; omega
              · have k2 : ¬ (A3 : Int) + (bs : Int) < (n : Int) := by omega
                have Hn2 := Lib.hid (hmg.last (by rw [← hA3, hd3]; omega) (by rw [← hA3, hd3]; omega))
                clear hPl hparts hmg hst3 hA3 hB3
                go_wp2_with fail
                go_roundw
                case rel => exact ⟨2 * bs, _, by omega, by omega, by congr 1; omega, Hn2.out, Hst3.out⟩
                case measure => simp [intOf]; omega
        · have hlt' : ¬ (bs : Int) < (n : Int) := by omega
          have Hend := Lib.hid (show ∃ d, Srt lessE d ∧ StAt g o S n l d w wr from ⟨d2, by
            have h9 := Hsg.out 0
            rw [Nat.zero_mul, seg_all (by omega)] at h9
            exact h9, Hst2.out⟩)
          go_wp2_with fail
          exact ⟨rfl, .tuple #[], by simp [results, Tryd.results56], rfl, Hend.out⟩
end Go.Proofs.YtmhkgfoimkonoaaDoor
