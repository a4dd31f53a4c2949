/-
  What is proved here: whether a text may be that of a listing, the document's way (Label) and the program's (listing, Tags), is labelB. Conditions: texts of at most a million bytes; the library's own variable holds some number.
  the program's listing, Tags and Maker of a text return what the plain functions say. Conditions: texts of at most a million bytes; the library's own variable holds some number.
-/
import Derived.Test.YtpkkkhgmkndpdaaGreatDoorEvM
import Derived.Test.YtpkkkhgmkndpdaaGreatDoorShelf
import Derived.IntWalk
namespace Go.Proofs.YtpkkkhgmkndpdaaGreatDoor
open Go Go.RowKit Go.Proofs
attribute [local go_sem ↓] Go.wp_at_zero Go.wp_at_succ

def tagsAt (l : List ByteArray) (k : Nat) : Prop := ∀ i, i < k → tagOk l i = true
theorem tagsAt_step {l : List ByteArray} {k : Nat} (h : tagsAt l k) (hk : tagOk l k = true) : tagsAt l (k + 1) := fun i hi => by
  rcases Nat.lt_or_ge i k with h' | h'
  · exact h i h'
  · obtain rfl : i = k := by omega
    exact hk
theorem tagsOk_yes {l : List ByteArray} {k : Nat} (h : tagsAt l k) (hk : l.length ≤ k) : tagsOk l = true := by
  unfold tagsOk; rw [List.all_eq_true]; intro i hi; exact h i (by have := List.mem_range.1 hi; omega)
theorem tagsOk_no {l : List ByteArray} {k : Nat} {a : ByteArray} (hk : l[k]? = some a) (h : tagOk l k = false) : tagsOk l = false := by
  rw [Bool.eq_false_iff]; intro ha
  have := List.all_eq_true.1 ha k (List.mem_range.2 (List.getElem?_eq_some_iff.1 hk).1)
  rw [h] at this; cases this
theorem tagOk_name {l : List ByteArray} {k : Nat} {a : ByteArray} (h : l[k]? = some a) (hn : nameB a = false) : tagOk l k = false := by simp [tagOk, h, hn]
theorem tagOk_first {l : List ByteArray} {a : ByteArray} (h : l[0]? = some a) (hn : nameB a = true) : tagOk l 0 = true := by simp [tagOk, h, hn]
theorem tagOk_next {l : List ByteArray} {k j : Nat} {a b : ByteArray} (h : l[k]? = some a) (hj : k = j + 1) (hb : l[j]? = some b) (hn : nameB a = true) : tagOk l k = ltB b a := by
  subst hj
  simp only [tagOk, h, hn, Nat.add_sub_cancel, List.getD_eq_getElem?_getD, hb]; simp
theorem label_no1 {s : ByteArray} (h : semiB s = false) : labelB s = false := by simp [labelB, h]
theorem label_no2 {s : ByteArray} (h : nameB (makerB s) = false) : labelB s = false := by simp [labelB, h]
theorem label_no3 {s : ByteArray} (h : 8 < (tagsB s).length) : labelB s = false := by
  have : decide ((tagsB s).length ≤ 8) = false := by simp; omega
  unfold labelB; rw [this]; simp
theorem label_no4 {s : ByteArray} (h : tagsOk (tagsB s) = false) : labelB s = false := by simp [labelB, h]
theorem label_end {s : ByteArray} (h1 : semiB s = true) (h2 : nameB (makerB s) = true) (h3 : tagsOk (tagsB s) = true) : labelB s = decide ((tagsB s).length ≤ 8) := by simp [labelB, h1, h2, h3]
theorem placeI_semi {s : ByteArray} (h : semiB s = true) : 0 ≤ placeI s := by unfold placeI; rw [if_pos h]; omega
theorem placeI_nosemi {s : ByteArray} (h : semiB s = false) : placeI s = -1 := by unfold placeI; rw [h]; rfl
theorem mem_parts_size (c : UInt8) : ∀ (l : List UInt8) (p : List UInt8), p ∈ partsL c l → p.length ≤ l.length := by
  intro l
  induction l with
  | nil => intro p hp; simp [partsL] at hp; subst hp; simp
  | cons b l ih =>
    intro p hp
    simp only [partsL] at hp
    split at hp
    · rcases List.mem_cons.1 hp with rfl | hp
      · simp
      · have := ih p hp; simp; omega
    · split at hp
      · rename_i h; exact absurd h (parts_ne c l)
      · rename_i q ps h
        rcases List.mem_cons.1 hp with rfl | hp
        · have := ih q (by rw [h]; simp); simp; omega
        · have := ih p (by rw [h]; simp [hp]); simp; omega
theorem behind_len (c : UInt8) (l : List UInt8) : (behindL c l).length ≤ l.length := by
  rcases cut_cases c l with h | ⟨a, r, h, rfl⟩
  · rw [(cut_none h).2.1]; simp
  · rw [(cut_hit h).2.1]; simp; omega
theorem ahead_len (c : UInt8) (l : List UInt8) : (aheadL c l).length ≤ l.length := by
  rcases cut_cases c l with h | ⟨a, r, h, rfl⟩
  · rw [(cut_none h).1]; exact Nat.le_refl _
  · rw [(cut_hit h).1]; simp
theorem tagsB_size {s t : ByteArray} (h : t ∈ tagsB s) : t.size ≤ s.size := by
  unfold tagsB at h
  split at h
  · simp at h
  · obtain ⟨p, hp, rfl⟩ := List.mem_map.1 h
    have h1 := mem_parts_size _ _ _ hp
    have h2 := behind_len 59 s.data.toList
    rw [bts_size]
    have : s.data.toList.length = s.size := by simp
    omega
theorem makerB_size (s : ByteArray) : (makerB s).size ≤ s.size := by
  unfold makerB
  rw [bts_size]
  have := ahead_len 59 s.data.toList
  have : s.data.toList.length = s.size := by simp
  omega
theorem parts_len (c : UInt8) : ∀ l : List UInt8, (partsL c l).length ≤ l.length + 1 := by
  intro l
  induction l with
  | nil => simp [partsL]
  | cons b l ih =>
    simp only [partsL]
    split
    · simp; omega
    · split
      · simp
      · rename_i q ps h
        rw [h] at ih; simp at ih ⊢; omega
theorem tagsB_len (s : ByteArray) : (tagsB s).length ≤ s.size + 1 := by
  unfold tagsB
  split
  · simp
  · have h1 := parts_len 44 (behindL 59 s.data.toList)
    have h2 := behind_len 59 s.data.toList
    have : s.data.toList.length = s.size := by simp
    rw [List.length_map]; omega

set_option maxRecDepth 100000 in
set_option maxHeartbeats 4000000 in
theorem ref_Label (s : ByteArray) (w : World) (hs : s.size ≤ 1000000) :
    Calls Tryz.prog 36 #[.string s] w fun e w' => e = .returned (.bool (labelB s)) ∧ Ext w w' := by
  have hsm : s.size ≤ maxLen := by unfold maxLen; omega
  have hmk : (makerB s).size ≤ maxLen := Nat.le_trans (makerB_size s) hsm
  cases h1 : semiB s
  · have hp := placeI_nosemi h1
    have Hf := Lib.hid (label_no1 h1)
    have hp0 : placeI s < 0 := by omega
    clear hp
    go_enter Tryz.func36, Tryz.ntmps36
    go_wp2_with (go_at_call 58; refine (ref_place s _ hsm).mono ?_; rintro _ w' ⟨rfl, rfl⟩)
    go_ret
    exact ⟨by rw [Hf.out]; rfl, Keeps.refl _ _⟩
  have hp0 := placeI_semi h1
  cases h2 : nameB (makerB s)
  · have Hf := Lib.hid (label_no2 h2)
    go_enter Tryz.func36, Tryz.ntmps36
    go_wp2_with (first | (go_at_call 58; refine (ref_place s _ hsm).mono ?_; rintro _ w' ⟨rfl, rfl⟩) | (go_at_call 59; refine (ref_Maker s _ hsm).mono ?_; rintro _ w' ⟨rfl, rfl⟩) | (go_at_call 34; refine (ref_Name _ _ hmk).mono ?_; rw [h2]; rintro _ w' ⟨rfl, rfl⟩))
    go_ret
    exact ⟨by rw [Hf.out]; rfl, Keeps.refl _ _⟩
  have Hsz := Lib.hid (fun t (ht : t ∈ tagsB s) => tagsB_size ht)
  have hln := tagsB_len s
  have Hno := Lib.hid (label_no4 (s := s))
  have Hend := Lib.hid (label_end h1 h2)
  generalize hl : tagsB s = l at *
  go_enter Tryz.func36, Tryz.ntmps36
  have HTG := Lib.hid (fun (W : World) => show Calls Tryz.prog 60 #[.string s] W (PartsPost l W) by rw [← hl]; exact ref_Tags s W hs)
  clear hl
  go_wp2_with (first | (go_at_call 58; refine (ref_place s _ hsm).mono ?_; rintro _ w' ⟨rfl, rfl⟩) | (go_at_call 59; refine (ref_Maker s _ hsm).mono ?_; rintro _ w' ⟨rfl, rfl⟩) | (go_at_call 34; refine (ref_Name _ _ hmk).mono ?_; rw [h2]; rintro _ w' ⟨rfl, rfl⟩) | (go_at_call 60; refine (HTG.out _).mono ?_; rintro _ w2 ⟨A, cp, rfl, hown, hx⟩; have Hown := Lib.hid (hown.sl (ok' := fun _ => True) (fun _ _ _ _ => trivial) (fun _ _ _ => trivial)); have Hx := Lib.hid hx; clear hown hx))
  obtain ⟨n, hn⟩ : ∃ n, n = l.length := ⟨_, rfl⟩
  rw [← hn] at Hown Hend hln ⊢
  have Hn := Lib.hid hn
  clear hn
  go_loopw [4] (fun i wr => ∃ k : Nat, k ≤ n ∧ i = .int .i64 k ∧ tagsAt l k ∧ Ext w2 wr) (fun i _ => n - (intOf i).toNat)
  case atStart => exact ⟨0, Nat.zero_le _, rfl, fun _ h => absurd h (by omega), Keeps.refl _ _⟩
  case round =>
    obtain ⟨k, hk, rfl, hat, hx2⟩ := hrel
    have Hat := Lib.hid hat
    have Hx2 := Lib.hid hx2
    clear hat hx2
    by_cases hlt : k < n
    · obtain ⟨b, o, t, rfl, hb, _, ht, hc⟩ := (Hown.out.ext Hx2.out).str hlt
      have Ht := Lib.hid ht
      have hts : t.size ≤ maxLen := by have := Hsz.out t (List.mem_of_getElem? ht); unfold maxLen; omega
      have i0 : (0 : Int) ≤ (k : Int) := by omega
      have i1 : (k : Int) < (n : Int) := by omega
      clear ht
      cases h3 : nameB t
      · have Hf := Lib.hid (Hno.out (tagsOk_no Ht.out (tagOk_name Ht.out h3)))
        go_wp2_with fail
        go_quiet ((go_at_call 34; exact Calls.quiet_of_same (((by rw [← h3]; exact ref_Name t _ hts) : Calls _ _ _ _ (fun e w' => e = .returned (.bool false) ∧ _ = w')).mono fun _ _ ⟨h1, h2⟩ => ⟨h1, h2.symm⟩)))
        go_wp2_with fail
        go_ret
        exact ⟨by rw [Hf.out]; rfl, (Hx.out.trans Hx2.out).drewN _⟩
      by_cases hk0 : k = 0
      · subst hk0
        simp only [Nat.add_zero] at hc
        have Hst := Lib.hid (tagsAt_step Hat.out (tagOk_first Ht.out h3))
        go_wp2_with fail
        go_quiet ((go_at_call 34; exact Calls.quiet_of_same (((by rw [← h3]; exact ref_Name t _ hts) : Calls _ _ _ _ (fun e w' => e = .returned (.bool true) ∧ _ = w')).mono fun _ _ ⟨h1, h2⟩ => ⟨h1, h2.symm⟩)))
        go_wp2_with fail
        go_roundw
        case rel => exact ⟨1, by omega, by go_num, Hst.out, Hx2.out.drewN _⟩
        case measure => simp [intOf]; omega
      obtain ⟨j, hj⟩ : ∃ j, k = j + 1 := ⟨k - 1, by omega⟩
      obtain ⟨b', o', u, e', _, _, hu, hcu⟩ := (Hown.out.ext Hx2.out).str (show j < n by omega)
      obtain ⟨rfl, rfl⟩ : b = b' ∧ o = o' := by injection Option.some.inj e' with h1 h2; exact ⟨h1, h2⟩
      have Htk := Lib.hid (tagOk_next Ht.out hj hu h3)
      have w1 : IntKind.i64.wrap ((k : Int) - 1) = (j : Int) := by rw [IntWalk.i64_in _ (by omega)]; omega
      have j0 : (0 : Int) ≤ (j : Int) := by omega
      have j1 : (j : Int) < (n : Int) := by omega
      have k1 : decide ((0 : Int) < (k : Int)) = true := by simp; omega
      have k2 : 0 < k := by omega
      clear hj e' hu
      cases h4 : ltB u t
      · have Hf := Lib.hid (Hno.out (tagsOk_no Ht.out (Htk.out.trans h4)))
        have h4' : Op.bytesLess u.toList t.toList = false := h4
        clear h4
        go_wp2_with fail
        go_quiet ((go_at_call 34; exact Calls.quiet_of_same (((by rw [← h3]; exact ref_Name t _ hts) : Calls _ _ _ _ (fun e w' => e = .returned (.bool true) ∧ _ = w')).mono fun _ _ ⟨h1, h2⟩ => ⟨h1, h2.symm⟩)))
        go_wp2_with fail
        go_ret
        exact ⟨by rw [Hf.out]; rfl, (Hx.out.trans Hx2.out).drewN _⟩
      · have Hst := Lib.hid (tagsAt_step Hat.out (Htk.out.trans h4))
        have h4' : Op.bytesLess u.toList t.toList = true := h4
        clear h4
        go_wp2_with fail
        go_quiet ((go_at_call 34; exact Calls.quiet_of_same (((by rw [← h3]; exact ref_Name t _ hts) : Calls _ _ _ _ (fun e w' => e = .returned (.bool true) ∧ _ = w')).mono fun _ _ ⟨h1, h2⟩ => ⟨h1, h2.symm⟩)))
        go_wp2_with fail
        go_roundw
        case rel => exact ⟨k + 1, by omega, by go_num, Hst.out, Hx2.out.drewN _⟩
        case measure => simp [intOf]; omega
    · obtain rfl : k = n := by omega
      have Hf := Lib.hid (Hend.out (tagsOk_yes Hat.out (Nat.le_of_eq Hn.out.symm)))
      go_wp2_with fail
      go_ret
      exact ⟨by rw [Hf.out]; simp; omega, Hx.out.trans Hx2.out⟩
end Go.Proofs.YtpkkkhgmkndpdaaGreatDoor
namespace Go.Proofs.YtpkkkhgmkndpdaaGreatDoor
open Go Go.RowKit Go.Proofs
attribute [local go_sem ↓] Go.wp_at_zero Go.wp_at_succ

/-- The library's own variable holds some number. -/
def Mx (w : World) : Prop := ∃ m, w.cell? ⟨1, 0, none⟩ = some (.int .i64 m)
theorem cell_lt {w : World} {a : Addr} {v : Value} (h : w.cell? a = some v) : a.block < w.heap.size := by
  unfold World.cell? at h
  cases hb : w.heap[a.block]? with
  | none => rw [hb] at h; cases h
  | some o => exact (Array.getElem?_eq_some_iff.1 hb).1
theorem Mx.ext {w w' : World} (h : Mx w) (hx : Ext w w') : Mx w' := by
  obtain ⟨m, hm⟩ := h
  exact ⟨m, (hx.cell (cell_lt hm) trivial).trans hm⟩
theorem str_Cut (s : ByteArray) (c : UInt8) (w : World) (hs : s.size ≤ 1000000) (hm : Mx w) :
    Calls Tryz.prog 71 #[.string s, .string (bts [c])] w fun e w' => e = .returned (.tuple #[.string (bts (aheadL c s.data.toList)), .string (bts (behindL c s.data.toList)), .bool (hasL c s.data.toList)]) ∧ Ext w w' := by
  obtain ⟨m, hm⟩ := hm
  refine (Tryz.strings_Cut s (bts [c]) m w (by omega) hm).mono ?_
  rintro e w' ⟨rfl, n, rfl⟩
  refine ⟨?_, Ext.of_drewN w n⟩
  rw [bts_data, lib_cut]; rfl
theorem str_Cut59 (s : ByteArray) (w : World) (hs : s.size ≤ 999999) (hm : Mx w) :
    Calls Tryz.prog 71 #[.string s, .string ⟨#[59]⟩] w fun e w' => e = .returned (.tuple #[.string (makerB s), .string (restB s), .bool (semiB s)]) ∧ Ext w w' := str_Cut s 59 w (by omega) hm
theorem str_Split (s : ByteArray) (c : UInt8) (w : World) (hs : s.size ≤ 999999) (hm : Mx w) :
    Calls Tryz.prog 93 #[.string s, .string (bts [c])] w (PartsPost ((partsL c s.data.toList).map bts) w) := by
  obtain ⟨m, hm⟩ := hm
  have h1 := lib_split c s.size s (Nat.le_refl _)
  have h2 := lib_count c s
  have h3 := parts_len c s.data.toList
  have h4 : s.data.toList.length = s.size := by simp
  refine (Tryz.strings_Split s (bts [c]) m w (by omega) hm (by rw [bts_size]; simp)).mono ?_
  rintro e w' ⟨rfl, rfl⟩
  rw [h1, h2]
  have hl : ((partsL c s.data.toList).map bts).length = (partsL c s.data.toList).length := List.length_map ..
  refine ⟨_, _, by rw [hl], ?_, (Keeps.refl _ _).alloc _⟩
  rw [hl]
  exact Own.new_strs (blk_new _ _) (Nat.le_refl _) hl (by omega) rfl
theorem restB_size (s : ByteArray) : (restB s).size ≤ s.size := by
  unfold restB
  rw [bts_size]
  have := behind_len 59 s.data.toList
  have : s.data.toList.length = s.size := by simp
  omega
theorem str_Split44 (s : ByteArray) (w : World) (hs : s.size ≤ 999999) (hm : Mx w) (hr : (restB s).toList.isEmpty = false) :
    Calls Tryz.prog 93 #[.string (restB s), .string ⟨#[44]⟩] w (PartsPost (tagsB s) w) := by
  have h9 := str_Split (restB s) 44 w (by have := restB_size s; omega) hm
  have e1 : (restB s).data.toList = behindL 59 s.data.toList := bts_data _
  rw [ByteArray.toList_eq, e1] at hr
  rw [e1] at h9
  unfold tagsB
  rw [if_neg (by rw [hr]; decide)]
  exact h9
theorem tagsB_rest {s : ByteArray} (hr : (restB s).toList.isEmpty = true) : tagsB s = [] := by
  have e1 : (restB s).data.toList = behindL 59 s.data.toList := bts_data _
  rw [ByteArray.toList_eq, e1] at hr
  unfold tagsB
  rw [if_pos hr]

set_option maxRecDepth 100000 in
set_option maxHeartbeats 2000000 in
theorem ev_Tags (s : ByteArray) (w : World) (hs : s.size ≤ 999999) (hm : Mx w) :
    Calls Tryz.prog 72 #[.string s] w (PartsPost (tagsB s) w) := by
  have Hm := Lib.hid hm
  clear hm
  cases hr : (restB s).toList.isEmpty
  · go_enter Tryz.func72, Tryz.ntmps72
    go_wp2_with (first | (go_at_call 71; refine (str_Cut59 s _ hs Hm.out).mono ?_; rintro _ w1 ⟨rfl, hx1⟩; have Hx1 := Lib.hid hx1; clear hx1) | (go_at_call 93; refine (str_Split44 s _ hs (Hm.out.ext Hx1.out) hr).mono ?_; rintro _ w2 ⟨A, cp, rfl, hown, hx⟩; have Hown := Lib.hid hown; have Hx := Lib.hid hx; clear hown hx))
    go_ret
    have h5 := Hx1.out.size
    refine ⟨A, cp, rfl, ?_, Hx1.out.trans Hx.out⟩
    have h6 := Hown.out
    obtain ⟨a1, xss, a2, a3, a4⟩ := h6
    refine ⟨a1, xss, ⟨a2.1, ?_⟩, a3, a4⟩
    rcases a2.2 with h | ⟨g, c1, c2, e1, hb, r1⟩
    · exact .inl h
    · exact .inr ⟨g, c1, c2, e1, by omega, r1⟩
  · have Hf := Lib.hid (tagsB_rest hr)
    go_enter Tryz.func72, Tryz.ntmps72
    go_wp2_with (go_at_call 71; refine (str_Cut59 s _ hs Hm.out).mono ?_; rintro _ w1 ⟨rfl, hx1⟩; have Hx1 := Lib.hid hx1; clear hx1)
    go_ret
    rw [Hf.out]
    exact ⟨_, _, rfl, Own.nil_, Hx1.out⟩

set_option maxRecDepth 100000 in
set_option maxHeartbeats 2000000 in
theorem ev_listing (s : ByteArray) (w : World) (hs : s.size ≤ 999999) (hm : Mx w) :
    Calls Tryz.prog 45 #[.string s] w fun e w' => e = .returned (.bool (labelB s)) ∧ Ext w w' := by
  have Hm := Lib.hid hm
  have hmk : (makerB s).size ≤ maxLen := Nat.le_trans (makerB_size s) (by unfold maxLen; omega)
  clear hm
  cases h1 : semiB s
  · have Hf := Lib.hid (label_no1 h1)
    go_enter Tryz.func45, Tryz.ntmps45
    go_wp2_with (go_at_call 71; refine (str_Cut59 s _ hs Hm.out).mono ?_; rw [h1]; rintro _ w1 ⟨rfl, hx1⟩; have Hx1 := Lib.hid hx1; clear hx1)
    go_ret
    exact ⟨by rw [Hf.out]; rfl, Hx1.out⟩
  cases h2 : nameB (makerB s)
  · have Hf := Lib.hid (label_no2 h2)
    go_enter Tryz.func45, Tryz.ntmps45
    go_wp2_with (first | (go_at_call 71; refine (str_Cut59 s _ hs Hm.out).mono ?_; rw [h1]; rintro _ w1 ⟨rfl, hx1⟩; have Hx1 := Lib.hid hx1; clear hx1) | (go_at_call 44; refine (event_Name _ _ hmk).mono ?_; rw [h2]; rintro _ w' ⟨rfl, rfl⟩))
    go_ret
    exact ⟨by rw [Hf.out]; rfl, Hx1.out⟩
  have Hsz := Lib.hid (fun t (ht : t ∈ tagsB s) => tagsB_size ht)
  have hln := tagsB_len s
  have Hno := Lib.hid (label_no4 (s := s))
  have Hno3 := Lib.hid (label_no3 (s := s))
  have Hend := Lib.hid (label_end h1 h2)
  generalize hl : tagsB s = l at *
  have HTG := Lib.hid (fun (W : World) (h : Mx W) => show Calls Tryz.prog 72 #[.string s] W (PartsPost l W) by rw [← hl]; exact ev_Tags s W hs h)
  clear hl
  obtain ⟨n, hn⟩ : ∃ n, n = l.length := ⟨_, rfl⟩
  have Hn := Lib.hid hn
  rw [← hn] at Hend Hno3 hln
  have HTG' := Lib.hid (fun (W : World) (h : Mx W) => (HTG.out W h).mono (R' := fun e w' => ∃ A c, e = .returned (.slice A n c) ∧ Sl strR (fun _ => True) w' A n l ∧ Ext W w') (fun _ _ ⟨A, c, h1, h2, h3⟩ => ⟨A, c, by rw [hn]; exact h1, by rw [hn]; exact h2.sl (fun _ _ _ _ => trivial) (fun _ _ _ => trivial), h3⟩))
  clear hn HTG
  by_cases h8 : 8 < n
  · have Hf := Lib.hid (Hno3.out h8)
    go_enter Tryz.func45, Tryz.ntmps45
    go_wp2_with (first | (go_at_call 71; refine (str_Cut59 s _ hs Hm.out).mono ?_; rw [h1]; rintro _ w1 ⟨rfl, hx1⟩; have Hx1 := Lib.hid hx1; clear hx1) | (go_at_call 44; refine (event_Name _ _ hmk).mono ?_; rw [h2]; rintro _ w' ⟨rfl, rfl⟩) | (go_at_call 72; refine (HTG'.out _ (Hm.out.ext Hx1.out)).mono ?_; rintro _ w2 ⟨A, cp, rfl, hown, hx⟩; have Hx := Lib.hid (Hx1.out.trans hx); clear hown hx))
    go_ret
    exact ⟨by rw [Hf.out]; rfl, Hx.out⟩
  go_enter Tryz.func45, Tryz.ntmps45
  go_wp2_with (first | (go_at_call 71; refine (str_Cut59 s _ hs Hm.out).mono ?_; rw [h1]; rintro _ w1 ⟨rfl, hx1⟩; have Hx1 := Lib.hid hx1; clear hx1) | (go_at_call 44; refine (event_Name _ _ hmk).mono ?_; rw [h2]; rintro _ w' ⟨rfl, rfl⟩) | (go_at_call 72; refine (HTG'.out _ (Hm.out.ext Hx1.out)).mono ?_; rintro _ w2 ⟨A, cp, rfl, hown, hx⟩; have Hown := Lib.hid hown; have Hx := Lib.hid (Hx1.out.trans hx); clear hown hx))
  go_loop [29] (fun i => ∃ k : Nat, k ≤ n ∧ i = .int .i64 k ∧ tagsAt l k) (fun i => n - (intOf i).toNat)
  case atStart => exact ⟨0, Nat.zero_le _, rfl, fun _ h => absurd h (by omega)⟩
  case round =>
    obtain ⟨k, hk, rfl, hat⟩ := hrel
    have Hat := Lib.hid hat
    clear hat
    by_cases hlt : k < n
    · obtain ⟨b, o, t, rfl, hb, _, ht, hc⟩ := Hown.out.str hlt
      have Ht := Lib.hid ht
      have hts : t.size ≤ maxLen := by have := Hsz.out t (List.mem_of_getElem? ht); unfold maxLen; omega
      have i0 : (0 : Int) ≤ (k : Int) := by omega
      have i1 : (k : Int) < (n : Int) := by omega
      clear ht
      cases h3 : nameB t
      · have Hf := Lib.hid (Hno.out (tagsOk_no Ht.out (tagOk_name Ht.out h3)))
        go_wp2_with (go_at_call 44; refine (event_Name _ _ hts).mono ?_; rw [h3]; rintro _ w' ⟨rfl, rfl⟩)
        go_ret
        exact ⟨by rw [Hf.out]; rfl, Hx.out⟩
      by_cases hk0 : k = 0
      · subst hk0
        simp only [Nat.add_zero] at hc
        have Hst := Lib.hid (tagsAt_step Hat.out (tagOk_first Ht.out h3))
        go_wp2_with (go_at_call 44; refine (event_Name _ _ hts).mono ?_; rw [h3]; rintro _ w' ⟨rfl, rfl⟩)
        go_round
        case rel => exact ⟨1, by omega, by go_num, Hst.out⟩
        case measure => simp [intOf]; omega
      obtain ⟨j, hj⟩ : ∃ j, k = j + 1 := ⟨k - 1, by omega⟩
      obtain ⟨b', o', u, e', _, _, hu, hcu⟩ := Hown.out.str (show j < n by omega)
      obtain ⟨rfl, rfl⟩ : b = b' ∧ o = o' := by injection Option.some.inj e' with h1 h2; exact ⟨h1, h2⟩
      have Htk := Lib.hid (tagOk_next Ht.out hj hu h3)
      have w1 : IntKind.i64.wrap ((k : Int) - 1) = (j : Int) := by rw [IntWalk.i64_in _ (by omega)]; omega
      have w2 : (k : Int) - 1 = (j : Int) := by omega
      have j0 : (0 : Int) ≤ (j : Int) := by omega
      have j1 : (j : Int) < (n : Int) := by omega
      have k1 : decide ((0 : Int) < (k : Int)) = true := by simp; omega
      have k2 : 0 < k := by omega
      clear hj e' hu
      cases h4 : ltB u t
      · have Hf := Lib.hid (Hno.out (tagsOk_no Ht.out (Htk.out.trans h4)))
        have h4' : Op.bytesLess u.toList t.toList = false := h4
        clear h4
        go_wp2_with (go_at_call 44; refine (event_Name _ _ hts).mono ?_; rw [h3]; rintro _ w' ⟨rfl, rfl⟩)
        go_ret
        exact ⟨by rw [Hf.out]; rfl, Hx.out⟩
      · have Hst := Lib.hid (tagsAt_step Hat.out (Htk.out.trans h4))
        have h4' : Op.bytesLess u.toList t.toList = true := h4
        clear h4
        go_wp2_with (go_at_call 44; refine (event_Name _ _ hts).mono ?_; rw [h3]; rintro _ w' ⟨rfl, rfl⟩)
        go_round
        case rel => exact ⟨k + 1, by omega, by go_num, Hst.out⟩
        case measure => simp [intOf]; omega
    · obtain rfl : k = n := by omega
      have Hf := Lib.hid (Hend.out (tagsOk_yes Hat.out (Nat.le_of_eq Hn.out.symm)))
      go_wp2_with fail
      go_ret
      exact ⟨by rw [Hf.out]; simp; omega, Hx.out⟩
end Go.Proofs.YtpkkkhgmkndpdaaGreatDoor
