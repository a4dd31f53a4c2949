/-
  What is proved here: the program's listing, Tags and Maker of a text return what the plain functions say. Conditions: texts of at most a million bytes; the library's own variable holds some number.
-/
import Derived.Test.YtdkgphambjnbiaaDoorEvLab
namespace Go.Proofs.YtdkgphambjnbiaaDoor
open Go Go.RowKit Go.Proofs
attribute [local go_sem ↓] Go.wp_at_zero Go.wp_at_succ

/-- The library's own variable holds some number. -/
def Mx (w : World) : Prop := ∃ m, w.cell? ⟨0, 0, none⟩ = some (.int .i64 m)
theorem cell_lt {w : World} {a : Addr} {v : Value} (h : w.cell? a = some v) : a.block < w.heap.size := by
  unfold World.cell? at h
  cases hb : w.heap[a.block]? with
  | none => rw [hb] at h; cases h
  | some o => exact (Array.getElem?_eq_some_iff.1 hb).1
theorem Mx.ext {w w' : World} (h : Mx w) (hx : Ext w w') : Mx w' := by
  obtain ⟨m, hm⟩ := h
  exact ⟨m, (hx.cell (cell_lt hm) trivial).trans hm⟩
theorem str_Cut (s : ByteArray) (c : UInt8) (w : World) (hs : s.size ≤ 1000000) (hm : Mx w) :
    Calls Tryd.prog 56 #[.string s, .string (bts [c])] w fun e w' => e = .returned (.tuple #[.string (bts (aheadL c s.data.toList)), .string (bts (behindL c s.data.toList)), .bool (hasL c s.data.toList)]) ∧ Ext w w' := by
  obtain ⟨m, hm⟩ := hm
  refine (Tryd.strings_Cut s (bts [c]) m w (by omega) hm).mono ?_
  rintro e w' ⟨rfl, n, rfl⟩
  refine ⟨?_, Ext.of_drewN w n⟩
  rw [bts_data, lib_cut]; rfl
theorem str_Cut59 (s : ByteArray) (w : World) (hs : s.size ≤ 999999) (hm : Mx w) :
    Calls Tryd.prog 56 #[.string s, .string ⟨#[59]⟩] w fun e w' => e = .returned (.tuple #[.string (makerB s), .string (restB s), .bool (semiB s)]) ∧ Ext w w' := str_Cut s 59 w (by omega) hm
theorem str_Split (s : ByteArray) (c : UInt8) (w : World) (hs : s.size ≤ 999999) (hm : Mx w) :
    Calls Tryd.prog 62 #[.string s, .string (bts [c])] w (PartsPost ((partsL c s.data.toList).map bts) w) := by
  obtain ⟨m, hm⟩ := hm
  have h1 := lib_split c s.size s (Nat.le_refl _)
  have h2 := lib_count c s
  have h3 := parts_len c s.data.toList
  have h4 : s.data.toList.length = s.size := by simp
  refine (Tryd.strings_Split s (bts [c]) m w (by omega) hm (by rw [bts_size]; simp)).mono ?_
  rintro e w' ⟨rfl, rfl⟩
  rw [h1, h2]
  have hl : ((partsL c s.data.toList).map bts).length = (partsL c s.data.toList).length := List.length_map ..
  refine ⟨_, _, by rw [hl], ?_, (Keeps.refl _ _).alloc _⟩
  rw [hl]
  exact Own.new_strs (blk_new _ _) (Nat.le_refl _) hl (by omega) rfl
theorem restB_size (s : ByteArray) : (restB s).size ≤ s.size := by
  unfold restB
  rw [bts_size]
  have := behind_len 59 s.data.toList
  have : s.data.toList.length = s.size := by simp
  omega
theorem str_Split44 (s : ByteArray) (w : World) (hs : s.size ≤ 999999) (hm : Mx w) (hr : (restB s).toList.isEmpty = false) :
    Calls Tryd.prog 62 #[.string (restB s), .string ⟨#[44]⟩] w (PartsPost (tagsB s) w) := by
  have h9 := str_Split (restB s) 44 w (by have := restB_size s; omega) hm
  have e1 : (restB s).data.toList = behindL 59 s.data.toList := bts_data _
  rw [ByteArray.toList_eq, e1] at hr
  rw [e1] at h9
  unfold tagsB
  rw [if_neg (by rw [hr]; decide)]
  exact h9
theorem tagsB_rest {s : ByteArray} (hr : (restB s).toList.isEmpty = true) : tagsB s = [] := by
  have e1 : (restB s).data.toList = behindL 59 s.data.toList := bts_data _
  rw [ByteArray.toList_eq, e1] at hr
  unfold tagsB
  rw [if_pos hr]

set_option maxRecDepth 100000 in
set_option maxHeartbeats 2000000 in
theorem ev_Tags (s : ByteArray) (w : World) (hs : s.size ≤ 999999) (hm : Mx w) :
    Calls Tryd.prog 57 #[.string s] w (PartsPost (tagsB s) w) := by
  have Hm := Lib.hid hm
  clear hm
  cases hr : (restB s).toList.isEmpty
  · go_enter Tryd.func57, Tryd.ntmps57
    go_wp2_with (first | (go_at_call 56; refine (str_Cut59 s _ hs Hm.out).mono ?_; rintro _ w1 ⟨rfl, hx1⟩; have Hx1 := Lib.hid hx1; clear hx1) | (go_at_call 62; refine (str_Split44 s _ hs (Hm.out.ext Hx1.out) hr).mono ?_; rintro _ w2 ⟨A, cp, rfl, hown, hx⟩; have Hown := Lib.hid hown; have Hx := Lib.hid hx; clear hown hx))
    go_ret
    have h5 := Hx1.out.size
    refine ⟨A, cp, rfl, ?_, Hx1.out.trans Hx.out⟩
    have h6 := Hown.out
    obtain ⟨a1, xss, a2, a3, a4⟩ := h6
    refine ⟨a1, xss, ⟨a2.1, ?_⟩, a3, a4⟩
    rcases a2.2 with h | ⟨g, c1, c2, e1, hb, r1⟩
    · exact .inl h
    · exact .inr ⟨g, c1, c2, e1, by omega, r1⟩
  · have Hf := Lib.hid (tagsB_rest hr)
    go_enter Tryd.func57, Tryd.ntmps57
    go_wp2_with (go_at_call 56; refine (str_Cut59 s _ hs Hm.out).mono ?_; rintro _ w1 ⟨rfl, hx1⟩; have Hx1 := Lib.hid hx1; clear hx1)
    go_ret
    rw [Hf.out]
    exact ⟨_, _, rfl, Own.nil_, Hx1.out⟩

set_option maxRecDepth 100000 in
set_option maxHeartbeats 2000000 in
theorem ev_listing (s : ByteArray) (w : World) (hs : s.size ≤ 999999) (hm : Mx w) :
    Calls Tryd.prog 53 #[.string s] w fun e w' => e = .returned (.bool (labelB s)) ∧ Ext w w' := by
  have Hm := Lib.hid hm
  have hmk : (makerB s).size ≤ maxLen := Nat.le_trans (makerB_size s) (by unfold maxLen; omega)
  clear hm
  cases h1 : semiB s
  · have Hf := Lib.hid (label_no1 h1)
    go_enter Tryd.func53, Tryd.ntmps53
    go_wp2_with (go_at_call 56; refine (str_Cut59 s _ hs Hm.out).mono ?_; rw [h1]; rintro _ w1 ⟨rfl, hx1⟩; have Hx1 := Lib.hid hx1; clear hx1)
    go_ret
    exact ⟨by rw [Hf.out]; rfl, Hx1.out⟩
  cases h2 : nameB (makerB s)
  · have Hf := Lib.hid (label_no2 h2)
    go_enter Tryd.func53, Tryd.ntmps53
    go_wp2_with (first | (go_at_call 56; refine (str_Cut59 s _ hs Hm.out).mono ?_; rw [h1]; rintro _ w1 ⟨rfl, hx1⟩; have Hx1 := Lib.hid hx1; clear hx1) | (go_at_call 34; refine (event_Name _ _ hmk).mono ?_; rw [h2]; rintro _ w' ⟨rfl, rfl⟩))
    go_ret
    exact ⟨by rw [Hf.out]; rfl, Hx1.out⟩
  have Hsz := Lib.hid (fun t (ht : t ∈ tagsB s) => tagsB_size ht)
  have hln := tagsB_len s
  have Hno := Lib.hid (label_no4 (s := s))
  have Hno3 := Lib.hid (label_no3 (s := s))
  have Hend := Lib.hid (label_end h1 h2)
  generalize hl : tagsB s = l at *
  have HTG := Lib.hid (fun (W : World) (h : Mx W) => show Calls Tryd.prog 57 #[.string s] W (PartsPost l W) by rw [← hl]; exact ev_Tags s W hs h)
  clear hl
  obtain ⟨n, hn⟩ : ∃ n, n = l.length := ⟨_, rfl⟩
  have Hn := Lib.hid hn
  rw [← hn] at Hend Hno3 hln
  have HTG' := Lib.hid (fun (W : World) (h : Mx W) => (HTG.out W h).mono (R' := fun e w' => ∃ A c, e = .returned (.slice A n c) ∧ Sl strR (fun _ => True) w' A n l ∧ Ext W w') (fun _ _ ⟨A, c, h1, h2, h3⟩ => ⟨A, c, by rw [hn]; exact h1, by rw [hn]; exact h2.sl (fun _ _ _ _ => trivial) (fun _ _ _ => trivial), h3⟩))
  clear hn HTG
  by_cases h8 : 8 < n
  · have Hf := Lib.hid (Hno3.out h8)
    go_enter Tryd.func53, Tryd.ntmps53
    go_wp2_with (first | (go_at_call 56; refine (str_Cut59 s _ hs Hm.out).mono ?_; rw [h1]; rintro _ w1 ⟨rfl, hx1⟩; have Hx1 := Lib.hid hx1; clear hx1) | (go_at_call 34; refine (event_Name _ _ hmk).mono ?_; rw [h2]; rintro _ w' ⟨rfl, rfl⟩) | (go_at_call 57; refine (HTG'.out _ (Hm.out.ext Hx1.out)).mono ?_; rintro _ w2 ⟨A, cp, rfl, hown, hx⟩; have Hx := Lib.hid (Hx1.out.trans hx); clear hown hx))
    go_ret
    exact ⟨by rw [Hf.out]; rfl, Hx.out⟩
  go_enter Tryd.func53, Tryd.ntmps53
  go_wp2_with (first | (go_at_call 56; refine (str_Cut59 s _ hs Hm.out).mono ?_; rw [h1]; rintro _ w1 ⟨rfl, hx1⟩; have Hx1 := Lib.hid hx1; clear hx1) | (go_at_call 34; refine (event_Name _ _ hmk).mono ?_; rw [h2]; rintro _ w' ⟨rfl, rfl⟩) | (go_at_call 57; refine (HTG'.out _ (Hm.out.ext Hx1.out)).mono ?_; rintro _ w2 ⟨A, cp, rfl, hown, hx⟩; have Hown := Lib.hid hown; have Hx := Lib.hid (Hx1.out.trans hx); clear hown hx))
  go_loop [29] (fun i => ∃ k : Nat, k ≤ n ∧ i = .int .i64 k ∧ tagsAt l k) (fun i => n - (intOf i).toNat)
  case atStart => exact ⟨0, Nat.zero_le _, rfl, fun _ h => absurd h (by omega)⟩
  case round =>
    obtain ⟨k, hk, rfl, hat⟩ := hrel
    have Hat := Lib.hid hat
    clear hat
    by_cases hlt : k < n
    · obtain ⟨b, o, t, rfl, hb, _, ht, hc⟩ := Hown.out.str hlt
      have Ht := Lib.hid ht
      have hts : t.size ≤ maxLen := by have := Hsz.out t (List.mem_of_getElem? ht); unfold maxLen; omega
      have i0 : (0 : Int) ≤ (k : Int) := by omega
      have i1 : (k : Int) < (n : Int) := by omega
      clear ht
      cases h3 : nameB t
      · have Hf := Lib.hid (Hno.out (tagsOk_no Ht.out (tagOk_name Ht.out h3)))
        go_wp2_with (go_at_call 34; refine (event_Name _ _ hts).mono ?_; rw [h3]; rintro _ w' ⟨rfl, rfl⟩)
        go_ret
        exact ⟨by rw [Hf.out]; rfl, Hx.out⟩
      by_cases hk0 : k = 0
      · subst hk0
        simp only [Nat.add_zero] at hc
        have Hst := Lib.hid (tagsAt_step Hat.out (tagOk_first Ht.out h3))
        go_wp2_with (go_at_call 34; refine (event_Name _ _ hts).mono ?_; rw [h3]; rintro _ w' ⟨rfl, rfl⟩)
        go_round
        case rel => exact ⟨1, by omega, by go_num, Hst.out⟩
        case measure => simp [intOf]; omega
      obtain ⟨j, hj⟩ : ∃ j, k = j + 1 := ⟨k - 1, by omega⟩
      obtain ⟨b', o', u, e', _, _, hu, hcu⟩ := Hown.out.str (show j < n by omega)
      obtain ⟨rfl, rfl⟩ : b = b' ∧ o = o' := by injection Option.some.inj e' with h1 h2; exact ⟨h1, h2⟩
      have Htk := Lib.hid (tagOk_next Ht.out hj hu h3)
      have w1 : IntKind.i64.wrap ((k : Int) - 1) = (j : Int) := by rw [IntWalk.i64_in _ (by omega)]; omega
      have w2 : (k : Int) - 1 = (j : Int) := by omega
      have j0 : (0 : Int) ≤ (j : Int) := by omega
      have j1 : (j : Int) < (n : Int) := by omega
      have k1 : decide ((0 : Int) < (k : Int)) = true := by simp; omega
      have k2 : 0 < k := by omega
      clear hj e' hu
      cases h4 : ltB u t
      · have Hf := Lib.hid (Hno.out (tagsOk_no Ht.out (Htk.out.trans h4)))
        have h4' : Op.bytesLess u.toList t.toList = false := h4
        clear h4
        go_wp2_with (go_at_call 34; refine (event_Name _ _ hts).mono ?_; rw [h3]; rintro _ w' ⟨rfl, rfl⟩)
        go_ret
        exact ⟨by rw [Hf.out]; rfl, Hx.out⟩
      · have Hst := Lib.hid (tagsAt_step Hat.out (Htk.out.trans h4))
        have h4' : Op.bytesLess u.toList t.toList = true := h4
        clear h4
        go_wp2_with (go_at_call 34; refine (event_Name _ _ hts).mono ?_; rw [h3]; rintro _ w' ⟨rfl, rfl⟩)
        go_round
        case rel => exact ⟨k + 1, by omega, by go_num, Hst.out⟩
        case measure => simp [intOf]; omega
    · obtain rfl : k = n := by omega
      have Hf := Lib.hid (Hend.out (tagsOk_yes Hat.out (Nat.le_of_eq Hn.out.symm)))
      go_wp2_with fail
      go_ret
      exact ⟨by rw [Hf.out]; simp; omega, Hx.out⟩
end Go.Proofs.YtdkgphambjnbiaaDoor
