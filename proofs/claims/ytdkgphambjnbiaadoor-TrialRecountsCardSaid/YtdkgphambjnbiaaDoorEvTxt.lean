/-
  What is proved here: the document's functions on texts (In, place, Maker, Parts, Tags, Label) return what the plain functions say. Conditions: texts of at most a million bytes.
-/
import Derived.Test.YtdkgphambjnbiaaDoorEvM
import Derived.Test.YtdkgphambjnbiaaDoorName
import Derived.Deep.QuietTactic
import Derived.BigQuiet
import Derived.Deep.DrawnRows
namespace Go.Proofs.YtdkgphambjnbiaaDoor
open Go Go.RowKit Go.Proofs
attribute [local go_sem ↓] Go.wp_at_zero Go.wp_at_succ

theorem ref_In (n lo hi : Int) (w : World) :
    Calls Tryd.prog 54 #[.int .i64 n, .int .i64 lo, .int .i64 hi] w fun e w' => e = .returned (.bool (decide (lo ≤ n) && decide (n ≤ hi))) ∧ w = w' := by
  cases h1 : decide (lo ≤ n)
  · go_enter Tryd.func54, Tryd.ntmps54
    go_wp2_with fail
    go_ret
    exact ⟨rfl, rfl⟩
  · go_enter Tryd.func54, Tryd.ntmps54
    go_wp2_with fail
    go_ret
    exact ⟨rfl, rfl⟩

theorem at_split {s : ByteArray} {k : Nat} {c : UInt8} (hk : k < s.size) (h : s[k] = c) : s.data.toList = s.data.toList.take k ++ c :: s.data.toList.drop (k + 1) := by
  have hk' : k < s.data.toList.length := by simpa using hk
  have e : s.data.toList[k] = c := h
  rw [← e, ← List.drop_eq_getElem_cons hk', List.take_append_drop]
theorem free_step {s : ByteArray} {k : Nat} {c : UInt8} (hk : k < s.size) (hf : freeL c (s.data.toList.take k)) (h : s[k] ≠ c) : freeL c (s.data.toList.take (k + 1)) := by
  rw [take_snoc s k hk]
  intro x hx
  rcases List.mem_append.1 hx with hx | hx
  · exact hf x hx
  · simp at hx; subst hx; exact h
theorem byte_eq (a c : UInt8) : ((a.toNat : Int) == (c.toNat : Int)) = (a == c) := by
  rw [Bool.eq_iff_iff]; simp only [beq_iff_eq]
  constructor
  · intro h; exact UInt8.toNat_inj.1 (by omega)
  · intro h; rw [h]
def placeI (s : ByteArray) : Int := if semiB s then ((aheadL 59 s.data.toList).length : Nat) else -1
theorem placeI_none {s : ByteArray} (h : freeL 59 s.data.toList) : placeI s = -1 := by unfold placeI semiB; rw [(cut_none h).2.2]; rfl
theorem placeI_hit {s : ByteArray} {a r : List UInt8} (h : freeL 59 a) (e : s.data.toList = a ++ 59 :: r) : placeI s = (a.length : Nat) := by unfold placeI semiB; rw [e, (cut_hit h).2.2, (cut_hit h).1]; rfl

set_option maxRecDepth 100000 in
set_option maxHeartbeats 1000000 in
theorem ref_place (s : ByteArray) (w : World) (hs : s.size ≤ maxLen) :
    Calls Tryd.prog 58 #[.string s] w fun e w' => e = .returned (.int .i64 (placeI s)) ∧ w = w' := by
  unfold maxLen at hs
  go_enter Tryd.func58, Tryd.ntmps58
  go_wp2_with fail
  go_loop [3] (fun i => ∃ k : Nat, k ≤ s.size ∧ i = .int .i64 k ∧ freeL 59 (s.data.toList.take k)) (fun i => s.size - (intOf i).toNat)
  case atStart => exact ⟨0, Nat.zero_le _, rfl, fun _ h => by simp at h⟩
  case round =>
    obtain ⟨k, hk, rfl, hall⟩ := hrel
    have Hall := Lib.hid hall
    clear hall
    by_cases hlt : k < s.size
    · cases h5 : ((s[k].toNat : Int) == 59)
      · have Hst := Lib.hid (free_step hlt Hall.out (fun e => by rw [e] at h5; cases h5))
        go_wp2_with fail
        go_round
        case rel => exact ⟨k + 1, by omega, by go_num, Hst.out⟩
        case measure => simp [intOf]; omega
      · have Hf := Lib.hid (placeI_hit Hall.out (at_split hlt (by rw [show (59 : Int) = ((59 : UInt8).toNat : Int) from rfl, byte_eq] at h5; exact beq_iff_eq.1 h5)))
        have Hln := Lib.hid (show (s.data.toList.take k).length = k by simp; omega)
        go_wp2_with fail
        go_ret
        exact ⟨by rw [Hf.out, Hln.out]; rfl, rfl⟩
    · obtain rfl : k = s.size := by omega
      have Hf := Lib.hid (placeI_none (s := s) (by have := Hall.out; rw [take_all s _ (Nat.le_refl _)] at this; exact this))
      go_wp2_with fail
      go_ret
      exact ⟨by rw [Hf.out]; rfl, rfl⟩

theorem extract_to {s : ByteArray} {a r : List UInt8} {c : UInt8} (e : s.data.toList = a ++ c :: r) : s.extract 0 a.length = bts a := by
  apply ByteArray.ext
  rw [← Array.toList_inj, Lib.extract_from_zero, bts_data, e]; simp
theorem extract_from {s : ByteArray} {a r : List UInt8} {c : UInt8} (e : s.data.toList = a ++ c :: r) : s.extract (a.length + 1) s.size = bts r := by
  apply ByteArray.ext
  rw [← Array.toList_inj, Lib.extract_to_end, bts_data, e]; simp
theorem hit_size {s : ByteArray} {a r : List UInt8} {c : UInt8} (e : s.data.toList = a ++ c :: r) : s.size = a.length + 1 + r.length := by
  have : s.size = s.data.toList.length := by simp
  rw [this, e]; simp; omega

set_option maxRecDepth 100000 in
set_option maxHeartbeats 1000000 in
theorem ref_Maker (s : ByteArray) (w : World) (hs : s.size ≤ maxLen) :
    Calls Tryd.prog 59 #[.string s] w fun e w' => e = .returned (.string (makerB s)) ∧ w = w' := by
  rcases cut_cases 59 s.data.toList with h | ⟨a, r, h, e⟩
  · have Hp := Lib.hid (placeI_none h)
    have Hm := Lib.hid (show makerB s = s by unfold makerB; rw [(cut_none h).1, bts_of])
    clear h
    go_enter Tryd.func59, Tryd.ntmps59
    go_wp2_with (go_at_call 58; refine (ref_place s _ hs).mono ?_; rw [Hp.out]; rintro _ w' ⟨rfl, rfl⟩)
    go_ret
    exact ⟨by rw [Hm.out]; rfl, rfl⟩
  · have Hp := Lib.hid (placeI_hit h e)
    have Hm := Lib.hid (show makerB s = s.extract 0 a.length by rw [extract_to e]; unfold makerB; rw [e, (cut_hit h).1])
    have hsz := hit_size e
    have hle : a.length ≤ s.size := by omega
    unfold maxLen at hs
    clear h e hsz
    go_enter Tryd.func59, Tryd.ntmps59
    go_wp2_with (go_at_call 58; refine (ref_place s _ (by unfold maxLen; omega)).mono ?_; rw [Hp.out]; rintro _ w' ⟨rfl, rfl⟩)
    go_ret
    exact ⟨by rw [Hm.out]; rfl, rfl⟩

/-! ### Parts -/
def PartsAt (c : UInt8) (l : List UInt8) (k fr : Nat) (done : List ByteArray) : Prop :=
  (k ≤ l.length ∧ fr ≤ k ∧ freeL c ((l.drop fr).take (k - fr)) ∧ (partsL c l).map bts = done ++ (partsL c (l.drop fr)).map bts) ∨ (k = l.length + 1 ∧ (partsL c l).map bts = done)
theorem partsAt_zero (c : UInt8) (l : List UInt8) : PartsAt c l 0 0 [] := .inl ⟨Nat.zero_le _, Nat.le_refl _, fun _ h => by simp at h, by simp⟩
theorem drop_take_succ {l : List UInt8} {k fr : Nat} (hk : k < l.length) (hf : fr ≤ k) : (l.drop fr).take (k + 1 - fr) = (l.drop fr).take (k - fr) ++ [l[k]] := by
  have h1 : k - fr < (l.drop fr).length := by simp; omega
  rw [show k + 1 - fr = (k - fr) + 1 by omega, List.take_succ_eq_append_getElem h1]
  simp [show fr + (k - fr) = k by omega]
theorem partsAt_pass {c : UInt8} {l : List UInt8} {k fr : Nat} {done : List ByteArray} (h : PartsAt c l k fr done) (hk : k < l.length) (hc : l[k] ≠ c) : PartsAt c l (k + 1) fr done := by
  rcases h with ⟨h1, h2, h3, h4⟩ | ⟨h1, _⟩
  · refine .inl ⟨by omega, by omega, ?_, h4⟩
    rw [drop_take_succ hk h2]
    intro x hx
    rcases List.mem_append.1 hx with hx | hx
    · exact h3 x hx
    · simp at hx; subst hx; exact hc
  · omega
theorem partsAt_cut {c : UInt8} {l : List UInt8} {k fr : Nat} {done : List ByteArray} (h : PartsAt c l k fr done) (hk : k < l.length) (hc : l[k] = c) : fr ≤ k ∧ PartsAt c l (k + 1) (k + 1) (done ++ [bts ((l.drop fr).take (k - fr))]) := by
  rcases h with ⟨h1, h2, h3, h4⟩ | ⟨h1, _⟩
  · refine ⟨h2, .inl ⟨by omega, Nat.le_refl _, by simp [freeL], ?_⟩⟩
    have e : l.drop fr = (l.drop fr).take (k - fr) ++ c :: l.drop (k + 1) := by
      have h5 : (l.drop fr).drop (k - fr) = c :: l.drop (k + 1) := by
        rw [List.drop_drop, show fr + (k - fr) = k by omega, List.drop_eq_getElem_cons hk, hc]
      rw [← h5, List.take_append_drop]
    rw [h4, e, partsL_hit h3, ← e]
    simp
  · omega
theorem partsAt_last {c : UInt8} {l : List UInt8} {fr : Nat} {done : List ByteArray} (h : PartsAt c l l.length fr done) : fr ≤ l.length ∧ PartsAt c l (l.length + 1) (l.length + 1) (done ++ [bts ((l.drop fr).take (l.length - fr))]) := by
  rcases h with ⟨h1, h2, h3, h4⟩ | ⟨h1, _⟩
  · refine ⟨h2, .inr ⟨rfl, ?_⟩⟩
    have e : (l.drop fr).take (l.length - fr) = l.drop fr := List.take_of_length_le (by simp)
    rw [e] at h3 ⊢
    rw [h4, partsL_none h3]; rfl
  · omega
theorem extract_mid (s : ByteArray) (a b : Nat) : s.extract a b = bts ((s.data.toList.drop a).take (b - a)) := by
  apply ByteArray.ext
  rw [← Array.toList_inj, bts_data, Lib.extract_data]

theorem info_strE : (Tryd.prog.info? 9).map (fun i => (i.zero, i.size, i.bytes)) = some (some (.string ⟨#[]⟩), 1, 16) := by kernel_rfl
def PartsPost (l : List ByteArray) (w : World) (e : Ending) (w' : World) : Prop :=
  ∃ A c, e = .returned (.slice A l.length c) ∧ Own strR 9 (fun _ => True) w' w.heap.size (.slice A l.length c) l.length l ∧ Ext w w'

set_option maxRecDepth 100000 in
set_option maxHeartbeats 4000000 in
theorem ref_Parts (s : ByteArray) (c : UInt8) (w : World) (hs : s.size ≤ 1000000) :
    Calls Tryd.prog 63 #[.string s, .int .u8 (c.toNat : Int)] w (PartsPost ((partsL c s.data.toList).map bts) w) := by
  obtain ⟨i0, hi0, hz0, hz1, hz2⟩ := info_parts info_strE
  have Hl := Lib.hid (show s.data.toList.length = s.size by simp)
  obtain ⟨cc, hcc⟩ : ∃ cc : Int, cc = (c.toNat : Int) := ⟨_, rfl⟩
  rw [← hcc]
  have Hcc := Lib.hid hcc
  clear hcc
  go_enter Tryd.func63, Tryd.ntmps63
  go_wp2_with fail
  go_loopw [5, 6, 7] (fun v f i wr => ∃ (k fr : Nat) (A : Option Addr) (cp : Nat) (done : List ByteArray), k ≤ s.size + 1 ∧ done.length ≤ k ∧ i = .int .i64 k ∧ f = .int .i64 fr ∧ v = .slice A done.length cp ∧ PartsAt c s.data.toList k fr done ∧ Own strR 9 (fun _ => True) wr w.heap.size (.slice A done.length cp) done.length done ∧ Ext w wr) (fun _ _ i _ => s.size + 1 - (intOf i).toNat)
  case atStart => exact ⟨0, 0, _, _, [], by omega, by simp, rfl, rfl, rfl, partsAt_zero _ _, Own.new_strs (blk_new _ _) (Nat.le_refl _) rfl (by simp) rfl, (Keeps.refl _ _).alloc _⟩
  case round =>
    obtain ⟨k, fr, A, cp, done, hk, hdk, rfl, rfl, rfl, hat, hown, hx⟩ := hrel
    have Hat := Lib.hid hat
    have Hown := Lib.hid hown
    have Hx := Lib.hid hx
    have hsz := hx.size
    obtain ⟨n, hn⟩ : ∃ n, n = done.length := ⟨_, rfl⟩
    rw [← hn] at hdk Hown ⊢
    have Hn := Lib.hid hn
    clear hat hown hx hn
    by_cases hlt : k < s.size
    · have Hbe := Lib.hid (byte_eq s[k] c)
      cases h5 : ((s[k].toNat : Int) == cc)
      · have Hst := Lib.hid (partsAt_pass Hat.out (by simpa using hlt) (fun e => by rw [Hcc.out, Hbe.out] at h5; rw [show s[k] = c from e] at h5; simp at h5))
        have h6 : ((k : Int) == (s.size : Int)) = false := by rw [beq_eq_false_iff_ne]; omega
        clear Hbe
        go_wp2_with fail
        go_roundw
        case rel => exact ⟨k + 1, fr, A, cp, done, by omega, by have := Hn.out; omega, by go_num, rfl, by rw [Hn.out], Hst.out, by have := Hown.out; rw [Hn.out] at this; exact this, Hx.out⟩
        case measure => simp [intOf]; omega
      · obtain ⟨hfk, hst⟩ := partsAt_cut Hat.out (by simpa using hlt) (show s.data.toList[k] = c by rw [Hcc.out, Hbe.out] at h5; exact beq_iff_eq.1 h5)
        have Hst := Lib.hid hst
        have Hex := Lib.hid (extract_mid s fr k)
        have h6 : ((k : Int) == (s.size : Int)) = false := by rw [beq_eq_false_iff_ne]; omega
        have j0 : (0 : Int) ≤ (fr : Int) := by omega
        have j1 : (fr : Int) ≤ (k : Int) := by omega
        have j2 : (k : Int) ≤ (s.size : Int) := by omega
        clear Hbe hst
        go_wp2_with (at_builtin; refine wpList_append_Own (ok := fun _ => True) (R := strR) _ rfl (.tmp 26) (.tmp 31) 22 rfl 9 i0 _ 16 w.heap.size Tryd.underlying22 hi0 hz0 hz1 hz2 rfl (by decide) rfl (Hown.out.alloc _) _ 1 1 [s.extract fr k] rfl (Srcs.one_new rfl (blk_new _ _) rfl) (by omega) (by decide) (by simp; omega) ?_; intro A5 c5 w5 hown5 hg5 hat5; have Hext := Lib.hid (show Ext w w5 from Keeps.grown (Hx.out.alloc _) hg5 (fun g hg hl => by have := (Hown.out.lt g hg).1; omega)); have Hown5 := Lib.hid hown5; clear hown5 hg5 hat5)
        go_roundw
        case rel =>
          refine ⟨k + 1, k + 1, A5, c5, done ++ [s.extract fr k], by omega, by simp; have := Hn.out; omega, by go_num, by go_num, by rw [Hn.out]; simp, ?_, ?_, Hext.out⟩
          · rw [Hex.out]; exact Hst.out
          · have h9 := Hown5.out
            rw [Hn.out] at h9
            rw [List.length_append]; exact h9
        case measure => simp [intOf]; omega
    · by_cases hle : k ≤ s.size
      · obtain rfl : k = s.size := by omega
        have hat' : PartsAt c s.data.toList s.data.toList.length fr done := by rw [Hl.out]; exact Hat.out
        obtain ⟨hfk, hst⟩ := partsAt_last hat'
        rw [Hl.out] at hfk hst
        have Hst := Lib.hid hst
        have Hex := Lib.hid (extract_mid s fr s.size)
        have j0 : (0 : Int) ≤ (fr : Int) := by omega
        have j1 : (fr : Int) ≤ (s.size : Int) := by omega
        clear hst hat'
        go_wp2_with (at_builtin; refine wpList_append_Own (ok := fun _ => True) (R := strR) _ rfl (.tmp 26) (.tmp 31) 22 rfl 9 i0 _ 16 w.heap.size Tryd.underlying22 hi0 hz0 hz1 hz2 rfl (by decide) rfl (Hown.out.alloc _) _ 1 1 [s.extract fr s.size] rfl (Srcs.one_new rfl (blk_new _ _) rfl) (by omega) (by decide) (by simp; omega) ?_; intro A5 c5 w5 hown5 hg5 hat5; have Hext := Lib.hid (show Ext w w5 from Keeps.grown (Hx.out.alloc _) hg5 (fun g hg hl => by have := (Hown.out.lt g hg).1; omega)); have Hown5 := Lib.hid hown5; clear hown5 hg5 hat5)
        go_roundw
        case rel =>
          refine ⟨s.size + 1, s.size + 1, A5, c5, done ++ [s.extract fr s.size], by omega, by simp; have := Hn.out; omega, by go_num, by go_num, by rw [Hn.out]; simp, ?_, ?_, Hext.out⟩
          · rw [Hex.out]; exact Hst.out
          · have h9 := Hown5.out
            rw [Hn.out] at h9
            rw [List.length_append]; exact h9
        case measure => simp [intOf]
      · obtain rfl : k = s.size + 1 := by omega
        have Hd := Lib.hid (show (partsL c s.data.toList).map bts = done by
          rcases Hat.out with ⟨h1, _⟩ | ⟨_, h2⟩
          · exact absurd h1 (by have := Hl.out; omega)
          · exact h2)
        go_wp2_with fail
        go_ret
        refine ⟨A, cp, ?_, ?_, Hx.out⟩
        · rw [Hd.out, ← Hn.out]; rfl
        · have h9 := Hown.out
          rw [Hn.out] at h9
          rw [Hd.out]; exact h9

theorem tagsB_none {s : ByteArray} (h : freeL 59 s.data.toList) : tagsB s = [] := by unfold tagsB; rw [(cut_none h).2.1]; rfl
theorem tagsB_empty {s : ByteArray} {a : List UInt8} (h : freeL 59 a) (e : s.data.toList = a ++ [59]) : tagsB s = [] := by unfold tagsB; rw [e, (cut_hit h).2.1]; rfl
theorem tagsB_some {s : ByteArray} {a r : List UInt8} (h : freeL 59 a) (e : s.data.toList = a ++ 59 :: r) (hr : r ≠ []) : tagsB s = (partsL 44 r).map bts := by
  unfold tagsB; rw [e, (cut_hit h).2.1]
  rw [if_neg (by cases r <;> simp at hr ⊢)]

set_option maxRecDepth 100000 in
set_option maxHeartbeats 2000000 in
theorem ref_Tags (s : ByteArray) (w : World) (hs : s.size ≤ 1000000) :
    Calls Tryd.prog 60 #[.string s] w (PartsPost (tagsB s) w) := by
  have hsm : s.size ≤ maxLen := by unfold maxLen; omega
  rcases cut_cases 59 s.data.toList with h | ⟨a, r, h, e⟩
  · have Hp := Lib.hid (placeI_none h)
    have Hm := Lib.hid (tagsB_none h)
    clear h
    go_enter Tryd.func60, Tryd.ntmps60
    go_wp2_with (go_at_call 58; refine (ref_place s _ hsm).mono ?_; rw [Hp.out]; rintro _ w' ⟨rfl, rfl⟩)
    go_ret
    rw [Hm.out]
    exact ⟨_, _, rfl, Own.new_strs (blk_new _ _) (Nat.le_refl _) rfl (by simp) rfl, (Keeps.refl _ _).alloc _⟩
  · have Hp := Lib.hid (placeI_hit h e)
    have hsz := hit_size e
    by_cases hr : r = []
    · subst hr
      have Hm := Lib.hid (tagsB_empty h e)
      simp at hsz
      have h6 : ((a.length : Int) == (s.size : Int) - 1) = true := by rw [beq_iff_eq]; omega
      clear h e
      go_enter Tryd.func60, Tryd.ntmps60
      go_wp2_with (go_at_call 58; refine (ref_place s _ hsm).mono ?_; rw [Hp.out]; rintro _ w' ⟨rfl, rfl⟩)
      go_ret
      rw [Hm.out]
      exact ⟨_, _, rfl, Own.new_strs (blk_new _ _) (Nat.le_refl _) rfl (by simp) rfl, (Keeps.refl _ _).alloc _⟩
    · have hrl : 0 < r.length := List.length_pos_iff.2 hr
      have h6 : ((a.length : Int) == (s.size : Int) - 1) = false := by rw [beq_eq_false_iff_ne]; omega
      have Hm := Lib.hid (tagsB_some h e hr)
      have HP := Lib.hid (show ∀ W, Calls Tryd.prog 63 #[.string (s.extract (a.length + 1) s.size), .int .u8 44] W (PartsPost (tagsB s) W) from fun W => by
        have h9 := ref_Parts (s.extract (a.length + 1) s.size) 44 W (by rw [extract_from e, bts_size]; omega)
        rw [Hm.out]
        have e9 : (s.extract (a.length + 1) s.size).data.toList = r := by rw [extract_from e, bts_data]
        rw [e9] at h9
        exact h9)
      have j1 : (a.length : Int) + 1 ≤ (s.size : Int) := by omega
      have Hsz := Lib.hid hsz
      clear h e hr hsz hrl
      go_enter Tryd.func60, Tryd.ntmps60
      go_wp2_with (first | (go_at_call 58; refine (ref_place s _ hsm).mono ?_; rw [Hp.out]; rintro _ w' ⟨rfl, rfl⟩) | (go_at_call 63; refine (HP.out _).mono ?_; rintro _ w2 ⟨A, cp, rfl, hown, hx⟩; have Hown := Lib.hid hown; have Hx := Lib.hid hx; clear hown hx))
      go_ret
      exact ⟨A, cp, rfl, Hown.out, Hx.out⟩
end Go.Proofs.YtdkgphambjnbiaaDoor
