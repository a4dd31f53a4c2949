/-
  What is proved here: the law JudgeCases returns true, whatever the events, and leaves old memory as it was. Conditions: no text is longer than a text can be; the library's variables, and the names of the kinds, hold what their text lays.
-/
import Derived.Test.YtpkkkhgmkndpdaaGreatDoorJuX
import Derived.Test.YtpkkkhgmkndpdaaGreatDoorEvBig
namespace Go.Proofs.YtpkkkhgmkndpdaaGreatDoor
open Go Go.RowKit Go.Proofs
attribute [local go_sem ↓] Go.wp_at_zero Go.wp_at_succ
theorem any_smallJ {l : List Ev} {m : Nat} (h : l.any (fun e => bigE e m) = false) : ∀ e ∈ l, bigE e m = false := by
  intro e he
  cases hb : bigE e m
  · rfl
  · have h2 : l.any (fun e => bigE e m) = true := List.any_eq_true.2 ⟨e, he, hb⟩
    rw [h] at h2; cases h2
theorem evTn_of {e : Ev} (h : bigE e 300 = false) : EvTn e := by
  have := bigE_no h
  exact ⟨by omega, by omega, by omega, by omega⟩
theorem rev_snoc {l : List Ev} {j : Nat} {e : Ev} (hj : 0 < j) (h : l[j - 1]? = some e) : l ++ (l.drop (j - 1)).reverse = (l ++ (l.drop j).reverse) ++ [e] := by
  obtain ⟨h1, h2⟩ := List.getElem?_eq_some_iff.1 h
  rw [List.drop_eq_getElem_cons h1, h2, List.reverse_cons, List.append_assoc, show j - 1 + 1 = j by omega]
/-- No case holds more things than there are events. -/
theorem cases_items (l : List Ev) : ∀ x ∈ casesR l, x.items.length ≤ l.length := by
  have key : ∀ (m : List Ev) (out : List Cas), (∀ x ∈ out, x.items.length ≤ l.length) → ∀ x ∈ m.foldl (refStep l) out, x.items.length ≤ l.length := by
    intro m
    induction m with
    | nil => exact fun _ h => h
    | cons e m ih =>
      intro out h
      rw [List.foldl_cons]
      refine ih _ fun x hx => ?_
      unfold refStep at hx
      split at hx
      · unfold putE at hx
        rcases List.mem_append.1 hx with h1 | h1
        · exact h x ((List.takeWhile_sublist _).subset h1)
        · rcases List.mem_cons.1 h1 with rfl | h1
          · exact (had_len l _ _).2
          · exact h x ((List.dropWhile_sublist _).subset h1)
      · exact h x hx
  exact key l [] fun x h => (by cases h)
theorem put_len {α : Type} (lt : α → α → Bool) (out : List α) (x : α) : (putE lt out x).length = out.length + 1 := by
  have h := congrArg List.length (List.takeWhile_append_dropWhile (p := fun y => !lt x y) (l := out))
  rw [List.length_append] at h
  unfold putE; rw [List.length_append, List.length_cons]; omega
theorem cases_len (l : List Ev) : (casesR l).length ≤ l.length := by
  have key : ∀ (m : List Ev) (out : List Cas), (m.foldl (refStep l) out).length ≤ out.length + m.length := by
    intro m
    induction m with
    | nil => exact fun _ => Nat.le_refl _
    | cons e m ih =>
      intro out
      rw [List.foldl_cons]
      refine Nat.le_trans (ih _) ?_
      have : (refStep l out e).length ≤ out.length + 1 := by
        unfold refStep
        split
        · exact Nat.le_of_eq (put_len casLt out _)
        · omega
      simp only [List.length_cons]
      omega
  have h := key l []
  rw [List.length_nil, Nat.zero_add] at h
  exact h
set_option maxRecDepth 100000 in
set_option maxHeartbeats 8000000 in
theorem law_Judge (A : Option Addr) (n c : Nat) (l : List Ev) (ok : Nat → Prop) (w : World) (hs : Sl evR ok w A n l) (hn : n ≤ 140737488355328) (hwf : ∀ e ∈ l, EvWf e) (hv : Vars w) :
    Calls Tryz.prog 3 #[.slice A n c] w fun r w' => r = .returned (.bool true) ∧ Ext w w' := by
  have Hs := Lib.hid hs
  have Hl := Lib.hid hs.1
  have Hv := Lib.hid hv
  have HL := Lib.hid (jl_lives w hv)
  have hnm : n ≤ maxLen := by unfold maxLen; omega
  by_cases h30 : 30 < n
  · clear hs hv hwf
    go_enter Tryz.func3, Tryz.ntmps3
    go_wp2_with (go_at_call 4; refine HL.out.mono ?_; rintro _ X1 ⟨rfl, hx1⟩; have Hx1 := Lib.hid hx1; clear hx1)
    go_ret
    exact ⟨rfl, Hx1.out⟩
  cases hbig : l.any (fun e => bigE e 300)
  case true =>
    have GS := Lib.hid (fun (W : World) (h : Ext w W) => show Calls Tryz.prog 5 #[.slice A n c, .int .i64 300] W (fun r w' => r = .returned (.bool true) ∧ Ext W w') by rw [← hbig]; exact ref_Some A n c l 300 ok W (Hs.out.ext h) hnm hwf)
    clear hs hv hwf hbig
    go_enter Tryz.func3, Tryz.ntmps3
    go_wp2_with (first | (go_at_call 4; refine HL.out.mono ?_; rintro _ X1 ⟨rfl, hx1⟩; have Hx1 := Lib.hid hx1; clear hx1) | (go_at_call 5; refine (GS.out _ Hx1.out).mono ?_; rintro _ X2 ⟨rfl, hx2⟩; have Hx2 := Lib.hid (Hx1.out.trans hx2); clear hx2))
    go_ret
    exact ⟨rfl, Hx2.out⟩
  have GS := Lib.hid (fun (W : World) (h : Ext w W) => show Calls Tryz.prog 5 #[.slice A n c, .int .i64 300] W (fun r w' => r = .returned (.bool false) ∧ Ext W w') by rw [← hbig]; exact ref_Some A n c l 300 ok W (Hs.out.ext h) hnm hwf)
  have hb1 := any_smallJ hbig
  have Htn := Lib.hid (fun e he => evTn_of (hb1 e he))
  have Hsm := Lib.hid (fun e he => evSm_of (hb1 e he) (by omega))
  cases hall : l.all mayE
  case false =>
    have HC := Lib.hid (fun (W : World) (h : Ext w W) => ju_Cases_no A n c l ok W (Hs.out.ext h) (by omega) hall Htn.out ((Hv.out.ext h).1))
    have HA := Lib.hid (fun (W : World) (h : Ext w W) => show Calls Tryz.prog 7 #[.slice A n c] W (fun r w' => r = .returned (.bool false) ∧ Ext W w') by rw [← hall]; exact ref_All A n c l ok W (Hs.out.ext h) hnm Hsm.out)
    clear hs hv hwf hbig hall hb1
    go_enter Tryz.func3, Tryz.ntmps3
    go_wp2_with (first | (go_at_call 4; refine HL.out.mono ?_; rintro _ X1 ⟨rfl, hx1⟩; have Hx1 := Lib.hid hx1; clear hx1) | (go_at_call 5; refine (GS.out _ Hx1.out).mono ?_; rintro _ X2 ⟨rfl, hx2⟩; have Hx2 := Lib.hid (Hx1.out.trans hx2); clear hx2) | (go_at_call 6; refine (HC.out _ Hx2.out).mono ?_; rintro _ X3 ⟨rfl, hx3⟩; have Hx3 := Lib.hid (Hx2.out.trans hx3); clear hx3) | (go_at_call 7; refine (HA.out _ Hx3.out).mono ?_; rintro _ X4 ⟨rfl, hx4⟩; have Hx4 := Lib.hid (Hx3.out.trans hx4); clear hx4))
    go_ret
    exact ⟨rfl, Hx4.out⟩
  have Hmay := Lib.hid (List.all_eq_true.1 hall)
  have HC := Lib.hid (fun (W : World) (h : Ext w W) => ju_Cases A n c l ok W (Hs.out.ext h) (by omega) Hmay.out Htn.out (Hv.out.ext h))
  have HA := Lib.hid (fun (W : World) (h : Ext w W) => show Calls Tryz.prog 7 #[.slice A n c] W (fun r w' => r = .returned (.bool true) ∧ Ext W w') by rw [← hall]; exact ref_All A n c l ok W (Hs.out.ext h) hnm Hsm.out)
  have HR := Lib.hid (fun (W : World) (h : Ext w W) => rf_Cases A n c l ok W (Hs.out.ext h) (by omega) Hmay.out)
  have HT := Lib.hid (fun (W : World) (h : Ext w W) (B : Option Addr) (q cb : Nat) (ok' : Nat → Prop) (hb : Sl evR ok' W B q (l ++ l.reverse)) (hq : q ≤ 100000) => show Calls Tryz.prog 6 #[.slice B q cb] W (fun r w' => ∃ (A' : Option Addr) (n' c' : Nat), r = .returned (.slice A' n' c') ∧ Sl casR (fun g => W.heap.size ≤ g) w' A' n' (casesR (anewE l)) ∧ Ext W w') by
    have hm : ∀ e ∈ l ++ l.reverse, e ∈ l := fun e he => by rw [List.mem_append, List.mem_reverse, or_self] at he; exact he
    rw [← turned_anew Hmay.out]
    exact ju_Cases B q cb _ ok' W hb hq (fun e he => Hmay.out e (hm e he)) (fun e he => Htn.out e (hm e he)) (Hv.out.ext h))
  have hal : (anewE l).length ≤ n := by have := anew_len' (once_len l); have := hs.1; omega
  have Hci := Lib.hid (show ∀ x ∈ casesR (anewE l), x.items.length ≤ 1000000 from fun x hx => by have := cases_items _ x hx; omega)
  have Hcl := Lib.hid (show (casesR (anewE l)).length ≤ 100000 by have := cases_len (anewE l); omega)
  obtain ⟨cs, hcs⟩ : ∃ cs, cs = casesR (anewE l) := ⟨_, rfl⟩
  rw [← hcs] at HC HR HT Hci Hcl
  obtain ⟨i0, hi0, hz0, hz1, hz2⟩ := info_part3 info_apiEv
  clear hs hv hwf hbig hall hb1 hcs hal
  go_enter Tryz.func3, Tryz.ntmps3
  go_wp2_with (first | (go_at_call 4; refine HL.out.mono ?_; rintro _ X1 ⟨rfl, hx1⟩; have Hx1 := Lib.hid hx1; clear hx1) | (go_at_call 5; refine (GS.out _ Hx1.out).mono ?_; rintro _ X2 ⟨rfl, hx2⟩; have Hx2 := Lib.hid (Hx1.out.trans hx2); clear hx2) | (go_at_call 6; refine (HC.out _ Hx2.out).mono ?_; rintro _ w3 ⟨A3, n3, c3, rfl, hsl3, hx3⟩; have Hs3 := Lib.hid hsl3; have Hx3 := Lib.hid (Hx2.out.trans hx3); clear hx3 hsl3) | (go_at_call 7; refine (HA.out _ Hx3.out).mono ?_; rintro _ w4 ⟨rfl, hx4⟩; have Hs4 := Lib.hid (Hs3.out.ext hx4); have Hx4 := Lib.hid (Hx3.out.trans hx4); clear hx4) | (at_builtin; refine wpList_append_Own (ok := fun _ => True) (R := evR) _ rfl (.tmp 24) (.tmp 25) 22 rfl 30 i0 _ 96 w4.heap.size Tryz.underlying22 hi0 hz0 hz1 hz2 rfl (by decide) rfl (Own.new_nil (blk_new _ _) (Nat.le_refl _)) _ n c l rfl (Sl.flat_src evR_flat (Hs.out.ext (Hx4.out.alloc _))) (by omega) (by decide) (by simp) ?_; intro A5 c5 w5 hown5 hg5 hat5; have Hx5 := Lib.hid (show Ext w w5 from Keeps.grown (Keeps.alloc Hx4.out _) hg5 (fun g hg hl => by have h9 : some w4.heap.size = some g := hg; injection h9 with h9; have := Hx4.out.size; omega)); have Hx45 := Lib.hid (show Ext w4 w5 from Keeps.grown (Keeps.alloc (Keeps.refl _ _) _) hg5 (fun g hg hl => by have h9 : some w4.heap.size = some g := hg; injection h9 with h9; omega)); simp only [Nat.zero_add, List.nil_append] at hown5; have Hown5 := Lib.hid hown5; clear hown5 hg5 hat5))
  go_loopw [4, 5] (fun v i wr => ∃ (j q : Nat) (z : Int) (B : Option Addr) (cb : Nat), j ≤ n ∧ q = n + (n - j) ∧ z = (j : Int) - 1 ∧ i = .int .i64 z ∧ v = .slice B q cb ∧ Own evR 30 (fun _ => True) wr w4.heap.size (.slice B q cb) q (l ++ (l.drop j).reverse) ∧ Ext w4 wr) (fun _ i _ => (intOf i + 1).toNat)
  case atStart =>
    refine ⟨n, n, _, A5, c5, Nat.le_refl _, by omega, rfl, rfl, rfl, ?_, Hx45.out⟩
    rw [List.drop_eq_nil_of_le (Nat.le_of_eq Hl.out)]
    simpa using Hown5.out
  case round =>
    obtain ⟨j, q, z, B, cb, hj, hq, hz, rfl, rfl, hown, hx⟩ := hrel
    have Hown := Lib.hid hown
    have Hx := Lib.hid hx
    have hsz := hx.size
    have hq2 : q ≤ 60 := by omega
    have Hq := Lib.hid hq
    have Hz := Lib.hid hz
    clear hown hx hq hz
    rcases Nat.eq_zero_or_pos j with hj0 | hpos
    · have hown9 := Hown.out
      rw [hj0, List.drop_zero] at hown9
      have hm1 : ¬ (0 : Int) ≤ z := by have := Hz.out; omega
      have Hown9 := Lib.hid hown9
      have Hxw := Lib.hid (Hx4.out.trans Hx.out)
      clear hown9 hj0
      go_wp2_with fail
      refine (HR.out wr Hxw.out).mono ?_
      rintro _ w5' ⟨B5, m5, cb5, rfl, hown5', hx5'⟩
      have Hr5 := Lib.hid (show Sl casR (fun _ => True) w5' B5 m5 cs from hown5'.sl (fun _ _ _ _ => trivial) (fun _ _ _ => trivial))
      have hm5 : m5 = n3 := by have h1 := hown5'.1; have h2 := Hs3.out.1; omega
      have Hx5' := Lib.hid hx5'
      clear hx5' hown5'
      subst hm5
      go_wp2_with fail
      have Hs5 := Lib.hid (Hs4.out.ext (Hx.out.trans Hx5'.out))
      have hml : m5 ≤ 100000 := by have h1 := Hs3.out.1; have h2 := Hcl.out; omega
      refine (rf_SameC A3 B5 m5 c3 cb5 cs _ _ w5' Hs5.out Hr5.out hml Hci.out).mono ?_
      rintro _ w6 ⟨rfl, hx6⟩
      have Hx6 := Lib.hid hx6
      clear hx6
      go_wp2_with fail
      refine (HT.out w6 (Hxw.out.trans (Hx5'.out.trans Hx6.out)) B q cb _ (Hown9.out.evSl.ext (Hx5'.out.trans Hx6.out)) (by omega)).mono ?_
      rintro _ w7 ⟨A7, n7, c7, rfl, hsl7, hx7⟩
      have Hs7 := Lib.hid hsl7
      have hm7 : n7 = m5 := by have h1 := hsl7.1; have h2 := Hs3.out.1; omega
      have Hr7 := Lib.hid (Hr5.out.ext (Hx6.out.trans hx7))
      have Hx7 := Lib.hid (Hxw.out.trans (Hx5'.out.trans (Hx6.out.trans hx7)))
      clear hx7 hsl7
      subst hm7
      go_wp2_with fail
      refine (rf_SameC A7 B5 n7 c7 cb5 cs _ _ w7 Hs7.out Hr7.out hml Hci.out).mono ?_
      rintro _ w8 ⟨rfl, hx8⟩
      have Hx8 := Lib.hid (Hx7.out.trans hx8)
      clear hx8
      go_wp2_with fail
      go_ret
      exact ⟨rfl, Hx8.out⟩
    · obtain ⟨b, o, e, rfl, hb, _, he, d0, d1, d2, d3, d4, d5, d6, d7⟩ := (Hs.out.ext (Hx4.out.trans Hx.out)).ev (k := j - 1) (by omega)
      have j0 : (0 : Int) ≤ z := by have := Hz.out; omega
      have j1 : z < (n : Int) := by have := Hz.out; omega
      have j2 : z.toNat = j - 1 := by have := Hz.out; omega
      have Hst := Lib.hid (rev_snoc hpos he)
      clear he
      go_wp2_with (at_builtin; refine wpList_append_Own (ok := fun _ => True) (R := evR) _ rfl (.tmp 34) (.tmp 39) 22 rfl 30 i0 _ 96 w4.heap.size Tryz.underlying22 hi0 hz0 hz1 hz2 rfl (by decide) rfl (Hown.out.alloc _) _ 1 1 [e] rfl (Srcs.one_new rfl (by first | exact blk_new _ _ | exact blk_new_ _ _ (by simp)) rfl) (by omega) (by decide) (by first | omega | (simp; omega)) ?_; intro A8 c8 w8 hown8 hg8 hat8; have Hown8 := Lib.hid hown8; have Hx8 := Lib.hid (show Ext w4 w8 from Keeps.grown (Hx.out.alloc _) hg8 (fun g hg hl => by have := (Hown.out.lt g hg).1; omega)); clear hown8 hg8 hat8)
      go_roundw
      case rel => exact ⟨j - 1, q + 1, _, A8, c8, by omega, by have := Hq.out; omega, by have := Hz.out; omega, rfl, rfl, by rw [Hst.out]; exact Hown8.out, Hx8.out⟩
      case measure => have := Hz.out; simp [intOf]; omega
end Go.Proofs.YtpkkkhgmkndpdaaGreatDoor
