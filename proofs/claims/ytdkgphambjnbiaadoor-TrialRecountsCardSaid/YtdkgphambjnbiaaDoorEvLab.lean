/-
  What is proved here: whether a text may be that of a listing, the document's way (Label) and the program's (listing, Tags), is labelB. Conditions: texts of at most a million bytes; the library's own variable holds some number.
-/
import Derived.Test.YtdkgphambjnbiaaDoorEvTxt
import Derived.Test.YtdkgphambjnbiaaDoorShelf
import Derived.IntWalk
namespace Go.Proofs.YtdkgphambjnbiaaDoor
open Go Go.RowKit Go.Proofs
attribute [local go_sem ↓] Go.wp_at_zero Go.wp_at_succ

def tagsAt (l : List ByteArray) (k : Nat) : Prop := ∀ i, i < k → tagOk l i = true
theorem tagsAt_step {l : List ByteArray} {k : Nat} (h : tagsAt l k) (hk : tagOk l k = true) : tagsAt l (k + 1) := fun i hi => by
  rcases Nat.lt_or_ge i k with h' | h'
  · exact h i h'
  · obtain rfl : i = k := by omega
    exact hk
theorem tagsOk_yes {l : List ByteArray} {k : Nat} (h : tagsAt l k) (hk : l.length ≤ k) : tagsOk l = true := by
  unfold tagsOk; rw [List.all_eq_true]; intro i hi; exact h i (by have := List.mem_range.1 hi; omega)
theorem tagsOk_no {l : List ByteArray} {k : Nat} {a : ByteArray} (hk : l[k]? = some a) (h : tagOk l k = false) : tagsOk l = false := by
  rw [Bool.eq_false_iff]; intro ha
  have := List.all_eq_true.1 ha k (List.mem_range.2 (List.getElem?_eq_some_iff.1 hk).1)
  rw [h] at this; cases this
theorem tagOk_name {l : List ByteArray} {k : Nat} {a : ByteArray} (h : l[k]? = some a) (hn : nameB a = false) : tagOk l k = false := by simp [tagOk, h, hn]
theorem tagOk_first {l : List ByteArray} {a : ByteArray} (h : l[0]? = some a) (hn : nameB a = true) : tagOk l 0 = true := by simp [tagOk, h, hn]
theorem tagOk_next {l : List ByteArray} {k j : Nat} {a b : ByteArray} (h : l[k]? = some a) (hj : k = j + 1) (hb : l[j]? = some b) (hn : nameB a = true) : tagOk l k = ltB b a := by
  subst hj
  simp only [tagOk, h, hn, Nat.add_sub_cancel, List.getD_eq_getElem?_getD, hb]; simp
theorem label_no1 {s : ByteArray} (h : semiB s = false) : labelB s = false := by simp [labelB, h]
theorem label_no2 {s : ByteArray} (h : nameB (makerB s) = false) : labelB s = false := by simp [labelB, h]
theorem label_no3 {s : ByteArray} (h : 8 < (tagsB s).length) : labelB s = false := by
  have : decide ((tagsB s).length ≤ 8) = false := by simp; omega
  unfold labelB; rw [this]; simp
theorem label_no4 {s : ByteArray} (h : tagsOk (tagsB s) = false) : labelB s = false := by simp [labelB, h]
theorem label_end {s : ByteArray} (h1 : semiB s = true) (h2 : nameB (makerB s) = true) (h3 : tagsOk (tagsB s) = true) : labelB s = decide ((tagsB s).length ≤ 8) := by simp [labelB, h1, h2, h3]
theorem placeI_semi {s : ByteArray} (h : semiB s = true) : 0 ≤ placeI s := by unfold placeI; rw [if_pos h]; omega
theorem placeI_nosemi {s : ByteArray} (h : semiB s = false) : placeI s = -1 := by unfold placeI; rw [h]; rfl
theorem mem_parts_size (c : UInt8) : ∀ (l : List UInt8) (p : List UInt8), p ∈ partsL c l → p.length ≤ l.length := by
  intro l
  induction l with
  | nil => intro p hp; simp [partsL] at hp; subst hp; simp
  | cons b l ih =>
    intro p hp
    simp only [partsL] at hp
    split at hp
    · rcases List.mem_cons.1 hp with rfl | hp
      · simp
      · have := ih p hp; simp; omega
    · split at hp
      · rename_i h; exact absurd h (parts_ne c l)
      · rename_i q ps h
        rcases List.mem_cons.1 hp with rfl | hp
        · have := ih q (by rw [h]; simp); simp; omega
        · have := ih p (by rw [h]; simp [hp]); simp; omega
theorem behind_len (c : UInt8) (l : List UInt8) : (behindL c l).length ≤ l.length := by
  rcases cut_cases c l with h | ⟨a, r, h, rfl⟩
  · rw [(cut_none h).2.1]; simp
  · rw [(cut_hit h).2.1]; simp; omega
theorem ahead_len (c : UInt8) (l : List UInt8) : (aheadL c l).length ≤ l.length := by
  rcases cut_cases c l with h | ⟨a, r, h, rfl⟩
  · rw [(cut_none h).1]; exact Nat.le_refl _
  · rw [(cut_hit h).1]; simp
theorem tagsB_size {s t : ByteArray} (h : t ∈ tagsB s) : t.size ≤ s.size := by
  unfold tagsB at h
  split at h
  · simp at h
  · obtain ⟨p, hp, rfl⟩ := List.mem_map.1 h
    have h1 := mem_parts_size _ _ _ hp
    have h2 := behind_len 59 s.data.toList
    rw [bts_size]
    have : s.data.toList.length = s.size := by simp
    omega
theorem makerB_size (s : ByteArray) : (makerB s).size ≤ s.size := by
  unfold makerB
  rw [bts_size]
  have := ahead_len 59 s.data.toList
  have : s.data.toList.length = s.size := by simp
  omega
theorem parts_len (c : UInt8) : ∀ l : List UInt8, (partsL c l).length ≤ l.length + 1 := by
  intro l
  induction l with
  | nil => simp [partsL]
  | cons b l ih =>
    simp only [partsL]
    split
    · simp; omega
    · split
      · simp
      · rename_i q ps h
        rw [h] at ih; simp at ih ⊢; omega
theorem tagsB_len (s : ByteArray) : (tagsB s).length ≤ s.size + 1 := by
  unfold tagsB
  split
  · simp
  · have h1 := parts_len 44 (behindL 59 s.data.toList)
    have h2 := behind_len 59 s.data.toList
    have : s.data.toList.length = s.size := by simp
    rw [List.length_map]; omega

set_option maxRecDepth 100000 in
set_option maxHeartbeats 4000000 in
theorem ref_Label (s : ByteArray) (w : World) (hs : s.size ≤ 1000000) :
    Calls Tryd.prog 55 #[.string s] w fun e w' => e = .returned (.bool (labelB s)) ∧ Ext w w' := by
  have hsm : s.size ≤ maxLen := by unfold maxLen; omega
  have hmk : (makerB s).size ≤ maxLen := Nat.le_trans (makerB_size s) hsm
  cases h1 : semiB s
  · have hp := placeI_nosemi h1
    have Hf := Lib.hid (label_no1 h1)
    have hp0 : placeI s < 0 := by omega
    clear hp
    go_enter Tryd.func55, Tryd.ntmps55
    go_wp2_with (go_at_call 58; refine (ref_place s _ hsm).mono ?_; rintro _ w' ⟨rfl, rfl⟩)
    go_ret
    exact ⟨by rw [Hf.out]; rfl, Keeps.refl _ _⟩
  have hp0 := placeI_semi h1
  cases h2 : nameB (makerB s)
  · have Hf := Lib.hid (label_no2 h2)
    go_enter Tryd.func55, Tryd.ntmps55
    go_wp2_with (first | (go_at_call 58; refine (ref_place s _ hsm).mono ?_; rintro _ w' ⟨rfl, rfl⟩) | (go_at_call 59; refine (ref_Maker s _ hsm).mono ?_; rintro _ w' ⟨rfl, rfl⟩) | (go_at_call 36; refine (ref_Name _ _ hmk).mono ?_; rw [h2]; rintro _ w' ⟨rfl, rfl⟩))
    go_ret
    exact ⟨by rw [Hf.out]; rfl, Keeps.refl _ _⟩
  have Hsz := Lib.hid (fun t (ht : t ∈ tagsB s) => tagsB_size ht)
  have hln := tagsB_len s
  have Hno := Lib.hid (label_no4 (s := s))
  have Hend := Lib.hid (label_end h1 h2)
  generalize hl : tagsB s = l at *
  go_enter Tryd.func55, Tryd.ntmps55
  have HTG := Lib.hid (fun (W : World) => show Calls Tryd.prog 60 #[.string s] W (PartsPost l W) by rw [← hl]; exact ref_Tags s W hs)
  clear hl
  go_wp2_with (first | (go_at_call 58; refine (ref_place s _ hsm).mono ?_; rintro _ w' ⟨rfl, rfl⟩) | (go_at_call 59; refine (ref_Maker s _ hsm).mono ?_; rintro _ w' ⟨rfl, rfl⟩) | (go_at_call 36; refine (ref_Name _ _ hmk).mono ?_; rw [h2]; rintro _ w' ⟨rfl, rfl⟩) | (go_at_call 60; refine (HTG.out _).mono ?_; rintro _ w2 ⟨A, cp, rfl, hown, hx⟩; have Hown := Lib.hid (hown.sl (ok' := fun _ => True) (fun _ _ _ _ => trivial) (fun _ _ _ => trivial)); have Hx := Lib.hid hx; clear hown hx))
  obtain ⟨n, hn⟩ : ∃ n, n = l.length := ⟨_, rfl⟩
  rw [← hn] at Hown Hend hln ⊢
  have Hn := Lib.hid hn
  clear hn
  go_loopw [4] (fun i wr => ∃ k : Nat, k ≤ n ∧ i = .int .i64 k ∧ tagsAt l k ∧ Ext w2 wr) (fun i _ => n - (intOf i).toNat)
  case atStart => exact ⟨0, Nat.zero_le _, rfl, fun _ h => absurd h (by omega), Keeps.refl _ _⟩
  case round =>
    obtain ⟨k, hk, rfl, hat, hx2⟩ := hrel
    have Hat := Lib.hid hat
    have Hx2 := Lib.hid hx2
    clear hat hx2
    by_cases hlt : k < n
    · obtain ⟨b, o, t, rfl, hb, _, ht, hc⟩ := (Hown.out.ext Hx2.out).str hlt
      have Ht := Lib.hid ht
      have hts : t.size ≤ maxLen := by have := Hsz.out t (List.mem_of_getElem? ht); unfold maxLen; omega
      have i0 : (0 : Int) ≤ (k : Int) := by omega
      have i1 : (k : Int) < (n : Int) := by omega
      clear ht
      cases h3 : nameB t
      · have Hf := Lib.hid (Hno.out (tagsOk_no Ht.out (tagOk_name Ht.out h3)))
        go_wp2_with fail
        go_quiet ((go_at_call 36; exact Calls.quiet_of_same (((by rw [← h3]; exact ref_Name t _ hts) : Calls _ _ _ _ (fun e w' => e = .returned (.bool false) ∧ _ = w')).mono fun _ _ ⟨h1, h2⟩ => ⟨h1, h2.symm⟩)))
        go_wp2_with fail
        go_ret
        exact ⟨by rw [Hf.out]; rfl, (Hx.out.trans Hx2.out).drewN _⟩
      by_cases hk0 : k = 0
      · subst hk0
        simp only [Nat.add_zero] at hc
        have Hst := Lib.hid (tagsAt_step Hat.out (tagOk_first Ht.out h3))
        go_wp2_with fail
        go_quiet ((go_at_call 36; exact Calls.quiet_of_same (((by rw [← h3]; exact ref_Name t _ hts) : Calls _ _ _ _ (fun e w' => e = .returned (.bool true) ∧ _ = w')).mono fun _ _ ⟨h1, h2⟩ => ⟨h1, h2.symm⟩)))
        go_wp2_with fail
        go_roundw
        case rel => exact ⟨1, by omega, by go_num, Hst.out, Hx2.out.drewN _⟩
        case measure => simp [intOf]; omega
      obtain ⟨j, hj⟩ : ∃ j, k = j + 1 := ⟨k - 1, by omega⟩
      obtain ⟨b', o', u, e', _, _, hu, hcu⟩ := (Hown.out.ext Hx2.out).str (show j < n by omega)
      obtain ⟨rfl, rfl⟩ : b = b' ∧ o = o' := by injection Option.some.inj e' with h1 h2; exact ⟨h1, h2⟩
      have Htk := Lib.hid (tagOk_next Ht.out hj hu h3)
      have w1 : IntKind.i64.wrap ((k : Int) - 1) = (j : Int) := by rw [IntWalk.i64_in _ (by omega)]; omega
      have j0 : (0 : Int) ≤ (j : Int) := by omega
      have j1 : (j : Int) < (n : Int) := by omega
      have k1 : decide ((0 : Int) < (k : Int)) = true := by simp; omega
      have k2 : 0 < k := by omega
      clear hj e' hu
      cases h4 : ltB u t
      · have Hf := Lib.hid (Hno.out (tagsOk_no Ht.out (Htk.out.trans h4)))
        have h4' : Op.bytesLess u.toList t.toList = false := h4
        clear h4
        go_wp2_with fail
        go_quiet ((go_at_call 36; exact Calls.quiet_of_same (((by rw [← h3]; exact ref_Name t _ hts) : Calls _ _ _ _ (fun e w' => e = .returned (.bool true) ∧ _ = w')).mono fun _ _ ⟨h1, h2⟩ => ⟨h1, h2.symm⟩)))
        go_wp2_with fail
        go_ret
        exact ⟨by rw [Hf.out]; rfl, (Hx.out.trans Hx2.out).drewN _⟩
      · have Hst := Lib.hid (tagsAt_step Hat.out (Htk.out.trans h4))
        have h4' : Op.bytesLess u.toList t.toList = true := h4
        clear h4
        go_wp2_with fail
        go_quiet ((go_at_call 36; exact Calls.quiet_of_same (((by rw [← h3]; exact ref_Name t _ hts) : Calls _ _ _ _ (fun e w' => e = .returned (.bool true) ∧ _ = w')).mono fun _ _ ⟨h1, h2⟩ => ⟨h1, h2.symm⟩)))
        go_wp2_with fail
        go_roundw
        case rel => exact ⟨k + 1, by omega, by go_num, Hst.out, Hx2.out.drewN _⟩
        case measure => simp [intOf]; omega
    · obtain rfl : k = n := by omega
      have Hf := Lib.hid (Hend.out (tagsOk_yes Hat.out (Nat.le_of_eq Hn.out.symm)))
      go_wp2_with fail
      go_ret
      exact ⟨by rw [Hf.out]; simp; omega, Hx.out.trans Hx2.out⟩
end Go.Proofs.YtdkgphambjnbiaaDoor
