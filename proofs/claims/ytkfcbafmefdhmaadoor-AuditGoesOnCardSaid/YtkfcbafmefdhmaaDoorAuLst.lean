/-
  What is proved here: the library's Cut, Split, TrimPrefix, Atoi and ParseUint, and the document's Parts, return what the plain functions say. Conditions: texts of at most a million bytes; the library's variables hold what their text lays.
-/
import Derived.Test.YtkfcbafmefdhmaaDoorAuNum
import Derived.Test.YtkfcbafmefdhmaaDoorEnt7
import Derived.Deep.QuietTactic
import Derived.BigQuiet
import Derived.Deep.DrawnRows
namespace Go.Proofs.YtkfcbafmefdhmaaDoor
open Go Go.RowKit Go.Proofs
attribute [local go_sem ↓] Go.wp_at_zero Go.wp_at_succ
theorem byte_eq (a c : UInt8) : ((a.toNat : Int) == (c.toNat : Int)) = (a == c) := by
  rw [Bool.eq_iff_iff]; simp only [beq_iff_eq]
  constructor
  · intro h; exact UInt8.toNat_inj.1 (by omega)
  · intro h; rw [h]
/-! ### Parts -/
def PartsAt (c : UInt8) (l : List UInt8) (k fr : Nat) (done : List ByteArray) : Prop :=
  (k ≤ l.length ∧ fr ≤ k ∧ freeL c ((l.drop fr).take (k - fr)) ∧ (partsL c l).map bts = done ++ (partsL c (l.drop fr)).map bts) ∨ (k = l.length + 1 ∧ (partsL c l).map bts = done)
theorem partsAt_zero (c : UInt8) (l : List UInt8) : PartsAt c l 0 0 [] := .inl ⟨Nat.zero_le _, Nat.le_refl _, fun _ h => by simp at h, by simp⟩
theorem drop_take_succ {l : List UInt8} {k fr : Nat} (hk : k < l.length) (hf : fr ≤ k) : (l.drop fr).take (k + 1 - fr) = (l.drop fr).take (k - fr) ++ [l[k]] := by
  have h1 : k - fr < (l.drop fr).length := by simp; omega
  rw [show k + 1 - fr = (k - fr) + 1 by omega, List.take_succ_eq_append_getElem h1]
  simp [show fr + (k - fr) = k by omega]
theorem partsAt_pass {c : UInt8} {l : List UInt8} {k fr : Nat} {done : List ByteArray} (h : PartsAt c l k fr done) (hk : k < l.length) (hc : l[k] ≠ c) : PartsAt c l (k + 1) fr done := by
  rcases h with ⟨h1, h2, h3, h4⟩ | ⟨h1, _⟩
  · refine .inl ⟨by omega, by omega, ?_, h4⟩
    rw [drop_take_succ hk h2]
    intro x hx
    rcases List.mem_append.1 hx with hx | hx
    · exact h3 x hx
    · simp at hx; subst hx; exact hc
  · omega
theorem partsAt_cut {c : UInt8} {l : List UInt8} {k fr : Nat} {done : List ByteArray} (h : PartsAt c l k fr done) (hk : k < l.length) (hc : l[k] = c) : fr ≤ k ∧ PartsAt c l (k + 1) (k + 1) (done ++ [bts ((l.drop fr).take (k - fr))]) := by
  rcases h with ⟨h1, h2, h3, h4⟩ | ⟨h1, _⟩
  · refine ⟨h2, .inl ⟨by omega, Nat.le_refl _, by simp [freeL], ?_⟩⟩
    have e : l.drop fr = (l.drop fr).take (k - fr) ++ c :: l.drop (k + 1) := by
      have h5 : (l.drop fr).drop (k - fr) = c :: l.drop (k + 1) := by
        rw [List.drop_drop, show fr + (k - fr) = k by omega, List.drop_eq_getElem_cons hk, hc]
      rw [← h5, List.take_append_drop]
    rw [h4, e, partsL_hit h3, ← e]
    simp
  · omega
theorem partsAt_last {c : UInt8} {l : List UInt8} {fr : Nat} {done : List ByteArray} (h : PartsAt c l l.length fr done) : fr ≤ l.length ∧ PartsAt c l (l.length + 1) (l.length + 1) (done ++ [bts ((l.drop fr).take (l.length - fr))]) := by
  rcases h with ⟨h1, h2, h3, h4⟩ | ⟨h1, _⟩
  · refine ⟨h2, .inr ⟨rfl, ?_⟩⟩
    have e : (l.drop fr).take (l.length - fr) = l.drop fr := List.take_of_length_le (by simp)
    rw [e] at h3 ⊢
    rw [h4, partsL_none h3]; rfl
  · omega
theorem extract_mid (s : ByteArray) (a b : Nat) : s.extract a b = bts ((s.data.toList.drop a).take (b - a)) := by
  apply ByteArray.ext
  rw [← Array.toList_inj, bts_data, Lib.extract_data]

theorem info_strE : (Tryd.prog.info? 9).map (fun i => (i.zero, i.size, i.bytes)) = some (some (.string ⟨#[]⟩), 1, 16) := by kernel_rfl
def PartsPost (l : List ByteArray) (w : World) (e : Ending) (w' : World) : Prop :=
  ∃ A c, e = .returned (.slice A l.length c) ∧ Own strR 9 (fun _ => True) w' w.heap.size (.slice A l.length c) l.length l ∧ Ext w w'

set_option maxRecDepth 100000 in
set_option maxHeartbeats 4000000 in
theorem ref_Parts (s : ByteArray) (c : UInt8) (w : World) (hs : s.size ≤ 1000000) :
    Calls Tryd.prog 58 #[.string s, .int .u8 (c.toNat : Int)] w (PartsPost ((partsL c s.data.toList).map bts) w) := by
  obtain ⟨i0, hi0, hz0, hz1, hz2⟩ := info_parts info_strE
  have Hl := Lib.hid (show s.data.toList.length = s.size by simp)
  obtain ⟨cc, hcc⟩ : ∃ cc : Int, cc = (c.toNat : Int) := ⟨_, rfl⟩
  rw [← hcc]
  have Hcc := Lib.hid hcc
  clear hcc
  go_enter Tryd.func58, Tryd.ntmps58
  go_wp2_with fail
  go_loopw [5, 6, 7] (fun v f i wr => ∃ (k fr : Nat) (A : Option Addr) (cp : Nat) (done : List ByteArray), k ≤ s.size + 1 ∧ done.length ≤ k ∧ i = .int .i64 k ∧ f = .int .i64 fr ∧ v = .slice A done.length cp ∧ PartsAt c s.data.toList k fr done ∧ Own strR 9 (fun _ => True) wr w.heap.size (.slice A done.length cp) done.length done ∧ Ext w wr) (fun _ _ i _ => s.size + 1 - (intOf i).toNat)
  case atStart => exact ⟨0, 0, _, _, [], by omega, by simp, rfl, rfl, rfl, partsAt_zero _ _, Own.new_strs (blk_new _ _) (Nat.le_refl _) rfl (by simp) rfl, (Keeps.refl _ _).alloc _⟩
  case round =>
    obtain ⟨k, fr, A, cp, done, hk, hdk, rfl, rfl, rfl, hat, hown, hx⟩ := hrel
    have Hat := Lib.hid hat
    have Hown := Lib.hid hown
    have Hx := Lib.hid hx
    have hsz := hx.size
    obtain ⟨n, hn⟩ : ∃ n, n = done.length := ⟨_, rfl⟩
    rw [← hn] at hdk Hown ⊢
    have Hn := Lib.hid hn
    clear hat hown hx hn
    by_cases hlt : k < s.size
    · have Hbe := Lib.hid (byte_eq s[k] c)
      cases h5 : ((s[k].toNat : Int) == cc)
      · have Hst := Lib.hid (partsAt_pass Hat.out (by simpa using hlt) (fun e => by rw [Hcc.out, Hbe.out] at h5; rw [show s[k] = c from e] at h5; simp at h5))
        have h6 : ((k : Int) == (s.size : Int)) = false := by rw [beq_eq_false_iff_ne]; omega
        clear Hbe
        go_wp2_with fail
        go_roundw
        case rel => exact ⟨k + 1, fr, A, cp, done, by omega, by have := Hn.out; omega, by go_num, rfl, by rw [Hn.out], Hst.out, by have := Hown.out; rw [Hn.out] at this; exact this, Hx.out⟩
        case measure => simp [intOf]; omega
      · obtain ⟨hfk, hst⟩ := partsAt_cut Hat.out (by simpa using hlt) (show s.data.toList[k] = c by rw [Hcc.out, Hbe.out] at h5; exact beq_iff_eq.1 h5)
        have Hst := Lib.hid hst
        have Hex := Lib.hid (extract_mid s fr k)
        have h6 : ((k : Int) == (s.size : Int)) = false := by rw [beq_eq_false_iff_ne]; omega
        have j0 : (0 : Int) ≤ (fr : Int) := by omega
        have j1 : (fr : Int) ≤ (k : Int) := by omega
        have j2 : (k : Int) ≤ (s.size : Int) := by omega
        clear Hbe hst
        go_wp2_with (at_builtin; refine wpList_append_Own (ok := fun _ => True) (R := strR) _ rfl (.tmp 26) (.tmp 31) 28 rfl 9 i0 _ 16 w.heap.size Tryd.underlying28 hi0 hz0 hz1 hz2 rfl (by decide) rfl (Hown.out.alloc _) _ 1 1 [s.extract fr k] rfl (Srcs.one_new rfl (blk_new _ _) rfl) (by omega) (by decide) (by simp; omega) ?_; intro A5 c5 w5 hown5 hg5 hat5; have Hext := Lib.hid (show Ext w w5 from Keeps.grown (Hx.out.alloc _) hg5 (fun g hg hl => by have := (Hown.out.lt g hg).1; omega)); have Hown5 := Lib.hid hown5; clear hown5 hg5 hat5)
        go_roundw
        case rel =>
          refine ⟨k + 1, k + 1, A5, c5, done ++ [s.extract fr k], by omega, by simp; have := Hn.out; omega, by go_num, by go_num, by rw [Hn.out]; simp, ?_, ?_, Hext.out⟩
          · rw [Hex.out]; exact Hst.out
          · have h9 := Hown5.out
            rw [Hn.out] at h9
            rw [List.length_append]; exact h9
        case measure => simp [intOf]; omega
    · by_cases hle : k ≤ s.size
      · obtain rfl : k = s.size := by omega
        have hat' : PartsAt c s.data.toList s.data.toList.length fr done := by rw [Hl.out]; exact Hat.out
        obtain ⟨hfk, hst⟩ := partsAt_last hat'
        rw [Hl.out] at hfk hst
        have Hst := Lib.hid hst
        have Hex := Lib.hid (extract_mid s fr s.size)
        have j0 : (0 : Int) ≤ (fr : Int) := by omega
        have j1 : (fr : Int) ≤ (s.size : Int) := by omega
        clear hst hat'
        go_wp2_with (at_builtin; refine wpList_append_Own (ok := fun _ => True) (R := strR) _ rfl (.tmp 26) (.tmp 31) 28 rfl 9 i0 _ 16 w.heap.size Tryd.underlying28 hi0 hz0 hz1 hz2 rfl (by decide) rfl (Hown.out.alloc _) _ 1 1 [s.extract fr s.size] rfl (Srcs.one_new rfl (blk_new _ _) rfl) (by omega) (by decide) (by simp; omega) ?_; intro A5 c5 w5 hown5 hg5 hat5; have Hext := Lib.hid (show Ext w w5 from Keeps.grown (Hx.out.alloc _) hg5 (fun g hg hl => by have := (Hown.out.lt g hg).1; omega)); have Hown5 := Lib.hid hown5; clear hown5 hg5 hat5)
        go_roundw
        case rel =>
          refine ⟨s.size + 1, s.size + 1, A5, c5, done ++ [s.extract fr s.size], by omega, by simp; have := Hn.out; omega, by go_num, by go_num, by rw [Hn.out]; simp, ?_, ?_, Hext.out⟩
          · rw [Hex.out]; exact Hst.out
          · have h9 := Hown5.out
            rw [Hn.out] at h9
            rw [List.length_append]; exact h9
        case measure => simp [intOf]
      · obtain rfl : k = s.size + 1 := by omega
        have Hd := Lib.hid (show (partsL c s.data.toList).map bts = done by
          rcases Hat.out with ⟨h1, _⟩ | ⟨_, h2⟩
          · exact absurd h1 (by have := Hl.out; omega)
          · exact h2)
        go_wp2_with fail
        go_ret
        refine ⟨A, cp, ?_, ?_, Hx.out⟩
        · rw [Hd.out, ← Hn.out]; rfl
        · have h9 := Hown.out
          rw [Hn.out] at h9
          rw [Hd.out]; exact h9

def Mx (w : World) : Prop := ∃ m, w.cell? ⟨2, 0, none⟩ = some (.int .i64 m)
theorem cell_lt {w : World} {a : Addr} {v : Value} (h : w.cell? a = some v) : a.block < w.heap.size := by
  unfold World.cell? at h
  cases hb : w.heap[a.block]? with
  | none => rw [hb] at h; cases h
  | some o => exact (Array.getElem?_eq_some_iff.1 hb).1
theorem Mx.ext {w w' : World} (h : Mx w) (hx : Ext w w') : Mx w' := by
  obtain ⟨m, hm⟩ := h
  exact ⟨m, (hx.cell (cell_lt hm) trivial).trans hm⟩
theorem str_Cut (s : ByteArray) (c : UInt8) (w : World) (hs : s.size ≤ 1000000) (hm : Mx w) :
    Calls Tryd.prog 40 #[.string s, .string (bts [c])] w fun e w' => e = .returned (.tuple #[.string (bts (aheadL c s.data.toList)), .string (bts (behindL c s.data.toList)), .bool (hasL c s.data.toList)]) ∧ Ext w w' := by
  obtain ⟨m, hm⟩ := hm
  refine (Tryd.strings_Cut s (bts [c]) m w (by omega) hm).mono ?_
  rintro e w' ⟨rfl, n, rfl⟩
  refine ⟨?_, Ext.of_drewN w n⟩
  rw [bts_data, lib_cut]; rfl
theorem str_Split (s : ByteArray) (c : UInt8) (w : World) (hs : s.size ≤ 999999) (hm : Mx w) :
    Calls Tryd.prog 55 #[.string s, .string (bts [c])] w (PartsPost ((partsL c s.data.toList).map bts) w) := by
  obtain ⟨m, hm⟩ := hm
  have h1 := lib_split c s.size s (Nat.le_refl _)
  have h2 := lib_count c s
  have h3 := parts_len c s.data.toList
  have h4 : s.data.toList.length = s.size := by simp
  refine (Tryd.strings_Split s (bts [c]) m w (by omega) hm (by rw [bts_size]; simp)).mono ?_
  rintro e w' ⟨rfl, rfl⟩
  rw [h1, h2]
  have hl : ((partsL c s.data.toList).map bts).length = (partsL c s.data.toList).length := List.length_map ..
  refine ⟨_, _, by rw [hl], ?_, (Keeps.refl _ _).alloc _⟩
  rw [hl]
  exact Own.new_strs (blk_new _ _) (Nat.le_refl _) hl (by omega) rfl
/-- The library's two errors are errors. -/
def Er (w : World) : Prop := (∃ tp p, w.var? Tryd.prog "strconv.ErrSyntax" = some #[.iface tp p]) ∧ ∃ tp p, w.var? Tryd.prog "strconv.ErrRange" = some #[.iface tp p]
theorem Er.ext {w w' : World} (h : Er w) (hx : Ext w w') : Er w' := by
  obtain ⟨⟨t1, p1, h1⟩, t2, p2, h2⟩ := h
  exact ⟨⟨t1, p1, var_ext hx h1⟩, t2, p2, var_ext hx h2⟩
structure VarsA (w : World) : Prop where
  mx : Mx w
  pow : Pow w
  er : Er w
theorem VarsA.ext {w w' : World} (h : VarsA w) (hx : Ext w w') : VarsA w' := ⟨h.mx.ext hx, h.pow.ext hx, h.er.ext hx⟩
theorem ext_bytesWorld (w : World) (e : TypeId) (s : ByteArray) : Ext w (Lib.bytesWorld w e s) := by
  unfold Lib.bytesWorld
  have h1 : Ext w (w.drew.alloc (.cells (Lib.bytesCells w e s) e)) := (Keeps.refl _ w).drew.alloc _
  refine ⟨h1.os, h1.tape, h1.output, Nat.le_trans h1.size (by simp [World.freeze]), fun k hk ho => ?_⟩
  have h2 := h1.block k hk ho
  rw [← h2]
  simp only [World.freeze]
  rw [if_neg (by decide)]
  show (Array.modify _ _ _)[k]? = _
  rw [Array.getElem?_modify, if_neg (by omega)]
theorem trim_c (s p : ByteArray) (w : World) : Calls Tryd.prog 37 #[.string s, .string p] w fun e w' => e = .returned (.string (bts (Lib.trimPrefix s.data.toList p.data.toList))) ∧ w = w' :=
  (Tryd.strings_TrimPrefix s p w).mono fun _ _ ⟨h1, h2⟩ => ⟨h1, h2.symm⟩
theorem atoi_yes (s : ByteArray) (v : Int) (w : World) (hs : s.size ≤ 1000000) (h : Lib.atoiAll s.data.toList = .ok v) :
    Calls Tryd.prog 56 #[.string s] w fun e w' => e = .returned (.tuple #[.int .i64 v, .nilIface]) ∧ Ext w w' :=
  (Tryd.strconv_Atoi_ok s (by omega) v h w).mono fun _ _ ⟨h1, h2⟩ => ⟨h1, by
    rcases h2 with rfl | ⟨t, rfl⟩
    · exact Keeps.refl _ _
    · exact ext_bytesWorld _ _ _⟩
theorem atoi_no (s : ByteArray) (w : World) (hs : s.size ≤ 1000000) (hv : Er w) (h : ∀ v, Lib.atoiAll s.data.toList ≠ .ok v) :
    Calls Tryd.prog 56 #[.string s] w fun e w' => ∃ v t N, e = .returned (.tuple #[.int .i64 v, .iface t (.pointer (some ⟨N, 0, none⟩))]) ∧ Ext w w' := by
  obtain ⟨⟨t1, p1, h1⟩, t2, p2, h2⟩ := hv
  cases h9 : Lib.atoiAll s.data.toList with
  | ok v => exact absurd h9 (h v)
  | range =>
    refine (Tryd.strconv_Atoi_range_var s (by omega) h9 t2 p2 w h2).mono ?_
    rintro _ w' ⟨N, rfl, _, _, hb⟩
    exact ⟨_, _, N, rfl, Ext.of_below hb⟩
  | _ =>
    refine (Tryd.strconv_Atoi_syntax_var s (by omega) h9 t1 p1 w h1).mono ?_
    rintro _ w' ⟨N, rfl, _, _, hb⟩
    exact ⟨_, _, N, rfl, Ext.of_below hb⟩
theorem parseU_yes (s : ByteArray) (u : Nat) (w : World) (hs : s.size ≤ 1000000) (h : Lib.parseUintB 64 s.data.toList = .ok u) :
    Calls Tryd.prog 36 #[.string s, .int .i64 10, .int .i64 64] w fun e w' => e = .returned (.tuple #[.int .u64 u, .nilIface]) ∧ Ext w w' :=
  (Tryd.strconv_ParseUint_10_at64_ok s (by omega) u h w).mono fun _ _ ⟨h1, h2⟩ => ⟨h1, by
    rcases h2 with rfl | rfl
    · exact Keeps.refl _ _
    · exact ext_bytesWorld _ _ _⟩
theorem parseU_no (s : ByteArray) (w : World) (hs : s.size ≤ 1000000) (hv : Er w) (h : ∀ v, Lib.parseUintB 64 s.data.toList ≠ .ok v) :
    Calls Tryd.prog 36 #[.string s, .int .i64 10, .int .i64 64] w fun e w' => ∃ v t N, e = .returned (.tuple #[.int .u64 v, .iface t (.pointer (some ⟨N, 0, none⟩))]) ∧ Ext w w' := by
  obtain ⟨⟨t1, p1, h1⟩, t2, p2, h2⟩ := hv
  cases h9 : Lib.parseUintB 64 s.data.toList with
  | ok v => exact absurd h9 (h v)
  | range =>
    refine (Tryd.strconv_ParseUint_10_at64_range_var s (by omega) h9 t2 p2 w h2).mono ?_
    rintro _ w' ⟨N, rfl, _, _, hb⟩
    exact ⟨_, _, N, rfl, Ext.of_below hb⟩
  | _ =>
    refine (Tryd.strconv_ParseUint_10_at64_syntax_var s (by omega) h9 t1 p1 w h1).mono ?_
    rintro _ w' ⟨N, rfl, _, _, hb⟩
    exact ⟨_, _, N, rfl, Ext.of_below hb⟩
end Go.Proofs.YtkfcbafmefdhmaaDoor
