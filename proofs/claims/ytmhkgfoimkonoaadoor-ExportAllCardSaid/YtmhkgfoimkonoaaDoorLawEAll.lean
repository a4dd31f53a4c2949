/-
  What is proved here: the law ExportAll returns true, whatever the events and the person, and leaves old memory as it was. Conditions: no text is longer than a text can be; the library's variables, and the names of the kinds, hold what their text lays.
-/
import Derived.Test.YtmhkgfoimkonoaaDoorExL
namespace Go.Proofs.YtmhkgfoimkonoaaDoor
open Go Go.RowKit Go.Proofs
attribute [local go_sem ↓] Go.wp_at_zero Go.wp_at_succ
theorem ofP_none {person : ByteArray} (h : noneB person = true) (l : List Ev) : l.filter (ofP person) = [] := by
  rw [List.filter_eq_nil_iff]
  intro e _
  simp [ofP, h]
theorem ofP_some {person : ByteArray} (h : noneB person = false) (l : List Ev) : l.filter (ofP person) = l.filter (fun e => e.person == person) := by
  congr 1
  funext e
  simp [ofP, h]
theorem textB_nil : textB (allE []) = ⟨#[]⟩ := by
  have : allE [] = [] := rfl
  rw [this]; rfl
theorem turned_all (l : List Ev) : allE (l ++ l.reverse) = allE l := allE_eq fun e => by rw [List.mem_append, List.mem_reverse, or_self]
theorem turn_step {l : List Ev} {j : Nat} {e : Ev} (h : l[j]? = some e) : (l.drop (j + 1)).reverse ++ [e] = (l.drop j).reverse := by
  have hl := (List.getElem?_eq_some_iff.1 h).1
  rw [List.drop_eq_getElem_cons hl, (List.getElem?_eq_some_iff.1 h).2, List.reverse_cons]
set_option maxRecDepth 100000 in
set_option maxHeartbeats 8000000 in
theorem law_EAll (A : Option Addr) (n c : Nat) (l : List Ev) (person : ByteArray) (ok : Nat → Prop) (w : World) (hs : Sl evR ok w A n l) (hn : n ≤ 140737488355328) (hwf : ∀ e ∈ l, EvWf e) (hpl : person.size ≤ 140737488355328) (hv : Vars w) :
    Calls Tryd.prog 6 #[.slice A n c, .string person] w fun r w' => r = .returned (.bool true) ∧ Ext w w' := by
  have Hs := Lib.hid hs
  have Hl := Lib.hid hs.1
  have Hv := Lib.hid hv
  obtain ⟨i0, hi0, hz0, hz1, hz2⟩ := info_part3 info_apiEv
  cases hhv : heavyE l
  case true =>
    have GH := Lib.hid (fun (W : World) (h : Sl evR ok W A n l) => show Calls Tryd.prog 16 #[.slice A n c] W (fun r w' => r = .returned (.bool true) ∧ Ext W w') by rw [← hhv]; exact law_heavy A n c l ok W h hn hwf)
    clear hs hv hwf hhv
    go_enter Tryd.func6, Tryd.ntmps6
    go_wp2_with (first | (go_at_call 15; refine (law42_lives _ Hv.out).mono ?_; rintro _ w1 ⟨rfl, hx1⟩; have Hx1 := Lib.hid hx1; clear hx1) | (go_at_call 16; refine (GH.out _ (Hs.out.ext Hx1.out)).mono ?_; rintro _ w2 ⟨rfl, hx2⟩; have Hx2 := Lib.hid (Hx1.out.trans hx2); clear hx2))
    go_ret
    exact ⟨rfl, Hx2.out⟩
  have GH := Lib.hid (fun (W : World) (h : Sl evR ok W A n l) => show Calls Tryd.prog 16 #[.slice A n c] W (fun r w' => r = .returned (.bool false) ∧ Ext W w') by rw [← hhv]; exact law_heavy A n c l ok W h hn hwf)
  obtain ⟨h30, hsm⟩ := heavy_no hhv
  rw [hs.1] at h30
  have Hsm := Lib.hid hsm
  clear hs hv hwf hhv hsm
  by_cases hp3 : 300 < person.size
  · go_enter Tryd.func6, Tryd.ntmps6
    go_wp2_with (first | (go_at_call 15; refine (law42_lives _ Hv.out).mono ?_; rintro _ w1 ⟨rfl, hx1⟩; have Hx1 := Lib.hid hx1; clear hx1) | (go_at_call 16; refine (GH.out _ (Hs.out.ext Hx1.out)).mono ?_; rintro _ w2 ⟨rfl, hx2⟩; have Hx2 := Lib.hid (Hx1.out.trans hx2); clear hx2))
    go_ret
    exact ⟨rfl, Hx2.out⟩
  have Hsm2 := Lib.hid (show ∀ e ∈ l ++ l.reverse, EvSm e from fun e he => Hsm.out e (by rw [List.mem_append, List.mem_reverse, or_self] at he; exact he))
  have HA := Lib.hid (show textB (allE (l ++ l.reverse)) = textB (allE l) by rw [turned_all])
  obtain ⟨PT, hPT⟩ : ∃ P, P = textB (allE (l.filter (ofP person))) := ⟨_, rfl⟩
  have HPT := Lib.hid hPT
  have HP := Lib.hid (fun (W : World) (h : Ext w W) => show Calls Tryd.prog 23 #[.string person, .slice A n c] W (fun r w' => r = .returned (.string PT) ∧ Ext W w') by
    cases hnp : noneB person
    · rw [hPT, ofP_some hnp]
      exact ex_Person person A n c l ok W hnp (Hs.out.ext h) (by omega) Hsm.out (Hv.out.ext h)
    · rw [hPT, ofP_none hnp, textB_nil, noneB_eq hnp]
      exact ex_Person_none A n c W)
  obtain ⟨T, hT⟩ : ∃ T, T = textB (allE l) := ⟨_, rfl⟩
  rw [← hT] at HA
  have H1 := Lib.hid (fun (W : World) (h : Ext w W) => show Calls Tryd.prog 17 #[.slice A n c] W (fun r w' => r = .returned (.string T) ∧ Ext W w') by rw [hT]; exact ex_All A n c l ok W (Hs.out.ext h) (by omega) Hsm.out (Hv.out.ext h))
  have H2 := Lib.hid (fun (W : World) (h : Ext w W) => show Calls Tryd.prog 22 #[.slice A n c] W (fun r w' => r = .returned (.string T) ∧ Ext W w') by rw [hT]; exact rf_Text A n c l ok W (Hs.out.ext h) (by omega) Hsm.out)
  clear hT hPT
  go_enter Tryd.func6, Tryd.ntmps6
  go_wp2_with (first | (go_at_call 15; refine (law42_lives _ Hv.out).mono ?_; rintro _ w1 ⟨rfl, hx1⟩; have Hx1 := Lib.hid hx1; clear hx1) | (go_at_call 16; refine (GH.out _ (Hs.out.ext Hx1.out)).mono ?_; rintro _ w2 ⟨rfl, hx2⟩; have Hx2 := Lib.hid (Hx1.out.trans hx2); clear hx2))
  refine (H1.out w2 Hx2.out).mono ?_
  rintro _ w3 ⟨rfl, hx3⟩
  have Hx3 := Lib.hid (Hx2.out.trans hx3)
  clear hx3
  go_wp2_with (at_builtin; refine wpList_append_Own (ok := fun _ => True) (R := evR) _ rfl (.tmp 19) (.tmp 20) 22 rfl 30 i0 _ 96 w3.heap.size Tryd.underlying22 hi0 hz0 hz1 hz2 rfl (by decide) rfl (Own.new_nil (blk_new _ _) (Nat.le_refl _)) _ n c l rfl (Sl.flat_src evR_flat (Hs.out.ext (Hx3.out.alloc _))) (by omega) (by decide) (by simp) ?_; intro A4 c4 w4 hown4 hg4 hat4; have Hx4 := Lib.hid (show Ext w w4 from Keeps.grown (Keeps.alloc Hx3.out _) hg4 (fun g hg hl => by have h9 : some w3.heap.size = some g := hg; injection h9 with h9; have := Hx3.out.size; omega)); simp only [Nat.zero_add, List.nil_append] at hown4; have Hown4 := Lib.hid (hown4.le Hx3.out.size); clear hown4 hg4 hat4)
  go_loopw [6, 7] (fun v i wr => ∃ (j q : Nat) (z : Int) (B : Option Addr) (cb : Nat), j ≤ n ∧ q = n + (n - j) ∧ z = (j : Int) - 1 ∧ i = .int .i64 z ∧ v = .slice B q cb ∧ Own evR 30 (fun _ => True) wr w.heap.size (.slice B q cb) q (l ++ (l.drop j).reverse) ∧ Ext w wr) (fun _ i _ => (intOf i + 1).toNat)
  case atStart =>
    refine ⟨n, n, _, A4, c4, Nat.le_refl _, by omega, rfl, rfl, rfl, ?_, Hx4.out⟩
    rw [List.drop_eq_nil_of_le (Nat.le_of_eq Hl.out)]
    simpa using Hown4.out
  case round =>
    obtain ⟨j, q, z, B, cb, hj, hq, hz, rfl, rfl, hown, hx⟩ := hrel
    have Hown := Lib.hid hown
    have Hx := Lib.hid hx
    have hsz := hx.size
    have hq2 : q ≤ 60 := by omega
    have Hq := Lib.hid hq
    have Hz := Lib.hid hz
    clear hown hx hq hz
    rcases Nat.eq_zero_or_pos j with hj0 | hpos
    · have hown9 := Hown.out
      rw [hj0, List.drop_zero] at hown9
      have hm1 : ¬ (0 : Int) ≤ z := by have := Hz.out; omega
      have Hal := Lib.hid (fun (W : World) (h : Ext wr W) => show Calls Tryd.prog 17 #[.slice B q cb] W (fun r w' => r = .returned (.string T) ∧ Ext W w') by
        rw [← HA.out]; exact ex_All B q cb _ _ W (hown9.evSl.ext h) (by omega) Hsm2.out (Hv.out.ext (Hx.out.trans h)))
      clear hown9 hj0
      go_wp2_with fail
      refine (H2.out wr Hx.out).mono ?_
      rintro _ w5 ⟨rfl, hx5⟩
      have Hx5 := Lib.hid hx5
      clear hx5
      go_wp2_with fail
      refine (Hal.out w5 Hx5.out).mono ?_
      rintro _ w6 ⟨rfl, hx6⟩
      have Hx6 := Lib.hid (Hx.out.trans (Hx5.out.trans hx6))
      clear hx6
      go_wp2_with fail
      refine (HP.out w6 Hx6.out).mono ?_
      rintro _ w7 ⟨rfl, hx7⟩
      have Hx7 := Lib.hid (Hx6.out.trans hx7)
      clear hx7
      go_wp2_with fail
      refine (rf_Of person A n c l ok w7 (Hs.out.ext Hx7.out) (by omega)).mono ?_
      rintro _ w8 ⟨B8, m8, c8, rfl, hm8, hown8, hx8⟩
      have Hx8 := Lib.hid (Hx7.out.trans hx8)
      have H8 := Lib.hid (show Calls Tryd.prog 22 #[.slice B8 m8 c8] w8 (fun r w' => r = .returned (.string PT) ∧ Ext w8 w') by
        rw [HPT.out]; exact rf_Text B8 m8 c8 _ _ w8 hown8.evSl (by omega) (fun e he => Hsm.out e (List.mem_filter.1 he).1))
      clear hx8 hown8
      go_wp2_with fail
      refine H8.out.mono ?_
      rintro _ w9 ⟨rfl, hx9⟩
      have Hx9 := Lib.hid (Hx8.out.trans hx9)
      clear hx9
      go_wp2_with fail
      refine (ex_Person_none A n c w9).mono ?_
      rintro _ w10 ⟨rfl, hx10⟩
      have Hx10 := Lib.hid (Hx9.out.trans hx10)
      clear hx10
      go_wp2_with fail
      go_ret
      exact ⟨rfl, Hx10.out⟩
    · obtain ⟨b, o, e, rfl, hb, _, he, d0, d1, d2, d3, d4, d5, d6, d7⟩ := (Hs.out.ext Hx.out).ev (k := j - 1) (by omega)
      have j0 : (0 : Int) ≤ z := by have := Hz.out; omega
      have j1 : z < (n : Int) := by have := Hz.out; omega
      have j2 : z.toNat = j - 1 := by have := Hz.out; omega
      have Hst := Lib.hid (show l ++ (l.drop (j - 1)).reverse = l ++ (l.drop j).reverse ++ [e] by
        have h9 := turn_step he
        rw [show j - 1 + 1 = j by omega] at h9
        rw [← h9, List.append_assoc])
      clear he
      go_wp2_with (at_builtin; refine wpList_append_Own (ok := fun _ => True) (R := evR) _ rfl (.tmp 29) (.tmp 34) 22 rfl 30 i0 _ 96 w.heap.size Tryd.underlying22 hi0 hz0 hz1 hz2 rfl (by decide) rfl (Hown.out.alloc _) _ 1 1 [e] rfl (Srcs.one_new rfl (by first | exact blk_new _ _ | exact blk_new_ _ _ (by simp)) rfl) (by omega) (by decide) (by first | omega | (simp; omega)) ?_; intro A8 c8 w8 hown8 hg8 hat8; have Hown8 := Lib.hid hown8; have Hx8 := Lib.hid (show Ext w w8 from Keeps.grown (Hx.out.alloc _) hg8 (fun g hg hl => by have := (Hown.out.lt g hg).1; omega)); clear hown8 hg8 hat8)
      go_roundw
      case rel => exact ⟨j - 1, q + 1, _, A8, c8, by omega, by have := Hq.out; omega, by have := Hz.out; omega, rfl, rfl, by rw [Hst.out]; exact Hown8.out, Hx8.out⟩
      case measure => have := Hz.out; simp [intOf]; omega
end Go.Proofs.YtmhkgfoimkonoaaDoor
