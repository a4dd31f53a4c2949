/-
  What is proved here: what the program's Decode does with a first line. Conditions: texts of at most a million bytes; the library's variables hold what their text lays.
-/
import Derived.Test.YtkfcbafmefdhmaaDoorAuPar2
namespace Go.Proofs.YtkfcbafmefdhmaaDoor
open Go Go.RowKit Go.Proofs
attribute [local go_sem ↓] Go.wp_at_zero Go.wp_at_succ
def aud6 : List UInt8 := [97, 117, 100, 105, 116, 32]
/-- The seed of a first line. -/
def headP (l : List UInt8) : Option Nat := if Lib.hasPrefix l aud6 then numOf (l.drop 6) else none
theorem prefix_drop {l : List UInt8} (h : Lib.hasPrefix l aud6 = true) : l = aud6 ++ l.drop 6 := by
  unfold Lib.hasPrefix at h
  have h2 : aud6 <+: l := by simpa using h
  obtain ⟨r, rfl⟩ := h2
  rfl
theorem headP_back {l : List UInt8} {n : Nat} (h : headP l = some n) : n < 18446744073709551616 ∧ headL n = l ∧ Lib.parseUintB 64 (Lib.trimPrefix l aud6) = .ok n := by
  unfold headP at h
  split at h
  · rename_i h1
    obtain ⟨a, b⟩ := numOf_iff.1 h
    refine ⟨a, ?_, ?_⟩
    · unfold headL
      rw [Int.toNat_natCast, b]
      exact (prefix_drop h1).symm
    · unfold Lib.trimPrefix
      rw [if_pos h1]
      exact parseU_num h
  · cases h
theorem headP_forth {l : List UInt8} {n : Nat} (h : Lib.parseUintB 64 (Lib.trimPrefix l aud6) = .ok n) (hl : headL n = l) : headP l = some n := by
  have h1 : Lib.hasPrefix l aud6 = true := by
    rw [← hl]
    unfold Lib.hasPrefix headL
    simp [aud6]
  unfold Lib.trimPrefix at h
  rw [if_pos h1] at h
  unfold headP
  rw [if_pos h1]
  refine parseU_back h ?_
  rw [← hl]
  unfold headL
  rw [Int.toNat_natCast]; rfl
set_option maxRecDepth 100000 in
set_option maxHeartbeats 4000000 in
theorem dec_first_no (s : ByteArray) (g : Nat) (w : World) (hs : s.size ≤ 999999) (hv : VarsA w) (h : headP s.data.toList = none) :
    Calls Tryd.prog 35 #[.string s, .pointer (some ⟨g, 0, none⟩)] w fun e w' => e = .returned (.int .i64 2) ∧ Ext w w' := by
  obtain ⟨T, hT⟩ : ∃ T, T = bts (Lib.trimPrefix s.data.toList aud6) := ⟨_, rfl⟩
  have hTs : T.size ≤ 1000000 := by
    rw [hT, bts_size]
    unfold Lib.trimPrefix
    have h4 : s.data.toList.length = s.size := by simp
    split
    · rw [List.length_drop]; omega
    · omega
  have Hv := Lib.hid hv
  have HT := Lib.hid (show Calls Tryd.prog 37 #[.string s, .string ⟨#[97, 117, 100, 105, 116, 32]⟩] w (fun e w' => e = .returned (.string T) ∧ w = w') by rw [hT]; exact trim_c s ⟨#[97, 117, 100, 105, 116, 32]⟩ w)
  have HP := Lib.hid (parseU_any T w hTs hv.er)
  have Hd := Lib.hid (show T.data.toList = Lib.trimPrefix s.data.toList aud6 by rw [hT, bts_data])
  clear hT hv hTs
  go_enter Tryd.func35, Tryd.ntmps35
  go_wp2_with fail
  refine HT.out.mono ?_
  rintro _ _ ⟨rfl, rfl⟩
  go_wp2_with fail
  refine HP.out.mono ?_
  rintro _ w1 ⟨v, er, rfl, hx1, hq, hvv⟩
  cases hb : okN (Lib.parseUintB 64 T.data.toList)
  · rw [hb] at hq
    obtain ⟨t, N, rfl⟩ := hq
    have Hx1 := Lib.hid hx1
    clear hvv hx1 hb
    go_wp2_with fail
    go_ret
    exact ⟨rfl, Hx1.out⟩
  · obtain ⟨n, rfl, hn⟩ := hvv hb
    rw [hb] at hq
    obtain rfl : er = .nilIface := hq
    rw [Hd.out] at hn
    have hlt := parseU_lt hn
    obtain ⟨H, hH⟩ : ∃ H : ByteArray, H = ⟨(headL (n : Int)).toArray⟩ := ⟨_, rfl⟩
    have CH := Lib.hid (show Calls Tryd.prog 32 #[.int .u64 (n : Int)] w1 (fun e w' => e = .returned (.string H) ∧ Ext w1 w') by rw [hH]; exact aud_head n (by omega) (by omega) w1 (Hv.out.pow.ext hx1))
    have hne : (H.toList != s.toList) = true := by
      rw [hH, ByteArray.toList_eq, ByteArray.toList_eq]
      simp only [bne_iff_ne, ne_eq]
      intro h9
      rw [headP_forth hn (by simpa using h9)] at h
      cases h
    have hne2 : (H.toList == s.toList) = false := by simpa using hne
    have Hx1 := Lib.hid hx1
    clear hn hH hx1 hvv hb
    go_wp2_with fail
    refine CH.out.mono ?_
    rintro _ w2 ⟨rfl, hx2⟩
    have Hx2 := Lib.hid (Hx1.out.trans hx2)
    clear hx2
    go_wp2_with fail
    go_ret
    exact ⟨rfl, Hx2.out⟩
set_option maxRecDepth 100000 in
set_option maxHeartbeats 4000000 in
theorem dec_first_yes (s : ByteArray) (g b n : Nat) (seed : Int) (es : List Ent) (v : Value) (w : World) (hs : s.size ≤ 999999) (hv : VarsA w) (h : headP s.data.toList = some n) (hg : w.heap[g]? = some (.cells #[.pointer (some ⟨b, 0, none⟩)] 26)) (hc : ChainAt w b seed es v) :
    Calls Tryd.prog 35 #[.string s, .pointer (some ⟨g, 0, none⟩)] w fun e w' => e = .returned (.int .i64 0) ∧ ChainAt w' b (n : Int) es v ∧ Keeps (fun k => k ≠ b) w w' := by
  obtain ⟨hlt, hhl, hpu⟩ := headP_back h
  obtain ⟨T, hT⟩ : ∃ T, T = bts (Lib.trimPrefix s.data.toList aud6) := ⟨_, rfl⟩
  have hTs : T.size ≤ 1000000 := by
    rw [hT, bts_size]
    unfold Lib.trimPrefix
    have h4 : s.data.toList.length = s.size := by simp
    split
    · rw [List.length_drop]; omega
    · omega
  have Hv := Lib.hid hv
  have HT := Lib.hid (show Calls Tryd.prog 37 #[.string s, .string ⟨#[97, 117, 100, 105, 116, 32]⟩] w (fun e w' => e = .returned (.string T) ∧ w = w') by rw [hT]; exact trim_c s ⟨#[97, 117, 100, 105, 116, 32]⟩ w)
  have HP := Lib.hid (parseU_yes T n w hTs (by rw [hT, bts_data]; exact hpu))
  have CH := Lib.hid (fun (W : World) (hx : Ext w W) => show Calls Tryd.prog 32 #[.int .u64 (n : Int)] W (fun e w' => e = .returned (.string s) ∧ Ext W w') by
    have h9 := aud_head n (by omega) (by omega) W (Hv.out.pow.ext hx)
    rw [hhl] at h9
    rw [show (⟨s.data.toList.toArray⟩ : ByteArray) = s from bts_of s] at h9
    exact h9)
  have Hg := Lib.hid hg
  have Hc := Lib.hid hc
  clear hT hv hTs hpu hhl h hg hc
  go_enter Tryd.func35, Tryd.ntmps35
  go_wp2_with fail
  refine HT.out.mono ?_
  rintro _ _ ⟨rfl, rfl⟩
  go_wp2_with fail
  refine HP.out.mono ?_
  rintro _ w1 ⟨rfl, hx1⟩
  have Hx1 := Lib.hid hx1
  clear hx1
  go_wp2_with fail
  refine (CH.out _ Hx1.out).mono ?_
  rintro _ w2 ⟨rfl, hx2⟩
  have Hx2 := Lib.hid (Hx1.out.trans hx2)
  have hg2 := Ext.blk Hx2.out Hg.out
  have hc2 := Hc.out.ext Hx2.out
  have q0 := blk_cell hg2 0 rfl
  have q1 := blk_cell hc2.blk 0 rfl
  have f1 := blk_free hc2.blk
  have Hc2 := Lib.hid hc2
  clear hx2 hg2 hc2
  go_wp2_with fail
  go_ret
  have hk : Keeps (fun k => k ≠ b) w2 (w2.setCell ⟨b, 0, none⟩ (.int .u64 (n : Int))) := (Keeps.refl _ _).setCell (fun _ h => h rfl) _
  refine ⟨rfl, ⟨blk_set Hc2.out.blk 0 _, ?_⟩, Keeps.trans (Ext.keeps Hx2.out _) hk⟩
  have ho := Hc2.out.own
  exact ho.keep (hk.mono (fun k _ h => Nat.ne_of_gt h.1)) (fun g hg => hk.block g (ho.lt g hg).2 (by have := (ho.lt g hg).1; omega))
end Go.Proofs.YtkfcbafmefdhmaaDoor
