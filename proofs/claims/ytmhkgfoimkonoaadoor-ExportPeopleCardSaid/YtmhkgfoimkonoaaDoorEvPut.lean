/-
  What is proved here: a text and a number are put behind bytes as the plain functions say (the program's putText and putNumber). Conditions: numbers up to 2^40, texts of at most 255 bytes, at most a million bytes ahead.
-/
import Derived.Test.YtmhkgfoimkonoaaDoorEvM
import Derived.Test.YtmhkgfoimkonoaaDoorBytes
import Derived.Test.YtmhkgfoimkonoaaDoorProg
import Derived.Laws.Bits128
import Derived.IntWalk
import Derived.Deep.DrawnRows
import Derived.Outline
namespace Go.Proofs.YtmhkgfoimkonoaaDoor
open Go Go.RowKit Go.Proofs
attribute [local go_sem ↓] Go.wp_at_zero Go.wp_at_succ

def numL (n : Nat) : List UInt8 := if n < 128 then [UInt8.ofNat n] else UInt8.ofNat (n % 128 + 128) :: numL (n / 128)
termination_by n
decreasing_by omega
theorem numL_lt {n : Nat} (h : n < 128) : numL n = [UInt8.ofNat n] := by rw [numL, if_pos h]
theorem numL_ge {n : Nat} (h : ¬ n < 128) : numL n = UInt8.ofNat (n % 128 + 128) :: numL (n / 128) := by rw [numL, if_neg h]
theorem numL_len : ∀ (k n : Nat), n < 128 ^ (k + 1) → (numL n).length ≤ k + 1
  | 0, n, h => by rw [numL_lt (by simpa using h)]; simp
  | k + 1, n, h => by
    by_cases hn : n < 128
    · rw [numL_lt hn]; simp
    · rw [numL_ge hn]
      have := numL_len k (n / 128) (Nat.div_lt_of_lt_mul (by rw [Nat.pow_succ, Nat.mul_comm] at h; exact h))
      simp; omega
theorem numL_6 {n : Nat} (h : n ≤ 1099511627776) : (numL n).length ≤ 6 := numL_len 5 n (by omega)
theorem numL_pos (n : Nat) : 1 ≤ (numL n).length := by
  by_cases hn : n < 128
  · rw [numL_lt hn]; simp
  · rw [numL_ge hn]; simp
def wordL (s : ByteArray) : List UInt8 := UInt8.ofNat s.size :: s.data.toList
theorem wordL_len (s : ByteArray) : (wordL s).length = s.size + 1 := by simp [wordL]

theorem info_byte : (Tryd.prog.info? 5).map (fun i => (i.zero, i.size, i.bytes)) = some (some (.int .u8 0), 1, 1) := by kernel_rfl
theorem src_byte (w : World) (g : Nat) (z : Int) (x : UInt8) (hz : z = (x.toNat : Int)) (t : TypeId) (fr : Nat × Nat) (hg : w.heap[g]? = some (.cells #[.int .u8 z] t fr)) : Go.Src Tryd.prog 1 47 (.slice (some ⟨g, 0, none⟩) 1 1) 1 ([x].map byteV) w :=
  Go.Src.ofSlice w Tryd.underlying47 ⟨g, 0, none⟩ 1 1 _ (by simp) (fun j u hu => by
    subst hz
    match j, hu with
    | 0, hu => simp [byteV] at hu; subst hu; rw [ad_add]; exact blk_cell hg 0 rfl) (byteV_one [x])
theorem src_text (w : World) (s : ByteArray) : Go.Src Tryd.prog 1 9 (.string s) s.size (s.data.toList.map byteV) w := by
  have := Go.Src.ofString (P := Tryd.prog) (tx := 9) w Tryd.underlying9 s
  rw [byteCells_eq] at this
  exact this
theorem ofNat_toNat {n : Nat} (h : n < 256) : ((UInt8.ofNat n).toNat : Int) = (n : Int) := by
  rw [UInt8.toNat_ofNat']; omega
theorem Keeps.grown_base {base : Nat} {a w w' : World} {v : Value} {n : Nat} {bs : List UInt8} (h : Keeps (fun k => k < base) a w) (hb : Bts w base v n bs) (hg : w.grownBy w' v.ownBlock) : Keeps (fun k => k < base) a w' :=
  Keeps.grown h hg (fun k hk _ => by have := (hb.lt k hk).1; omega)
def PutPost (base : Nat) (bs : List UInt8) (w : World) (e : Ending) (w' : World) : Prop :=
  ∃ A c m, e = .returned (.slice A m c) ∧ Bts w' base (.slice A m c) m bs ∧ Keeps (fun k => k < base) w w'

set_option maxRecDepth 100000 in
set_option maxHeartbeats 4000000 in
theorem ev_putText (s : ByteArray) (hs : s.size ≤ 255) (A : Option Addr) (n c : Nat) (bs : List UInt8) (base : Nat) (w : World) (hb : Bts w base (.slice A n c) n bs) (hn : n ≤ 1000000) (hbase : base ≤ w.heap.size) :
    Calls Tryd.prog 52 #[.slice A n c, .string s] w (PutPost base (bs ++ wordL s) w) := by
  obtain ⟨i0, hi0, hz0, hz1, hz2⟩ := info_parts info_byte
  have Hb := Lib.hid hb
  have Hof := Lib.hid (ofNat_toNat (n := s.size) (by omega))
  clear hb
  go_enter Tryd.func52, Tryd.ntmps52
  go_wp2_with (first
    | (at_builtin; refine wpList_append_Bts (base := base) _ rfl (.tmp 5) (.tmp 9) 47 47 rfl 5 i0 Tryd.underlying47 hi0 hz0 hz1 hz2 rfl (Hb.out.ext ((Keeps.refl _ _).alloc _)) _ 1 [UInt8.ofNat s.size] rfl (src_byte _ _ _ _ Hof.out.symm _ _ (blk_new _ _)) (by omega) (by simp; omega) ?_; intro A3 c3 w3 hb3 hg3 hat3; have Hk3 := Lib.hid (Keeps.grown_base (a := w) ((Keeps.refl _ _).alloc _) (Hb.out.ext ((Keeps.refl _ _).alloc _)) hg3); have Hb3 := Lib.hid hb3; have hsz3 : base ≤ w3.heap.size := Nat.le_trans hbase Hk3.out.size; clear hb3 hg3 hat3)
    | (at_builtin; refine wpList_append_Bts (base := base) _ rfl (.tmp 11) (.tmp 12) 47 9 rfl 5 i0 Tryd.underlying47 hi0 hz0 hz1 hz2 rfl Hb3.out _ s.size s.data.toList rfl (src_text _ _) (by omega) hsz3 ?_; intro A4 c4 w4 hb4 hg4 hat4; have Hk4 := Lib.hid (Keeps.grown_base Hk3.out Hb3.out hg4); have Hb4 := Lib.hid hb4; clear hb4 hg4 hat4))
  go_ret
  refine ⟨A4, c4, n + 1 + s.size, rfl, ?_, Hk4.out⟩
  have h9 := Hb4.out
  rw [List.append_assoc] at h9
  exact h9

set_option maxRecDepth 100000 in
set_option maxHeartbeats 4000000 in
theorem ev_putNumber (N : Nat) (hN : N ≤ 1099511627776) (A : Option Addr) (n c : Nat) (bs : List UInt8) (base : Nat) (w : World) (hb : Bts w base (.slice A n c) n bs) (hn : n ≤ 1000000) (hbase : base ≤ w.heap.size) :
    Calls Tryd.prog 53 #[.slice A n c, .int .i64 (N : Int)] w (PutPost base (bs ++ numL N) w) := by
  obtain ⟨i0, hi0, hz0, hz1, hz2⟩ := info_parts info_byte
  have Hb := Lib.hid hb
  have Hbl := Lib.hid hb.1
  have h6 := numL_6 hN
  clear hb
  go_enter Tryd.func53, Tryd.ntmps53
  go_wp2_with fail
  go_loopw [0, 1] (fun v i wr => ∃ (m k : Nat) (A : Option Addr) (c : Nat) (done : List UInt8), m ≤ N ∧ i = .int .i64 m ∧ v = .slice A k c ∧ Bts wr base (.slice A k c) k (bs ++ done) ∧ numL N = done ++ numL m ∧ Keeps (fun k => k < base) w wr) (fun _ i _ => (intOf i).toNat)
  case atStart => exact ⟨N, n, A, c, [], Nat.le_refl _, rfl, rfl, by simpa using Hb.out, rfl, Keeps.refl _ _⟩
  case round =>
    obtain ⟨m, k, A1, c1, done, hm, rfl, rfl, hb1, hnum, hk1⟩ := hrel
    have hkl : k ≤ n + 6 := by
      have h7 := hb1.1
      have h8 := congrArg List.length hnum
      rw [List.length_append] at h7 h8
      have := Hbl.out
      omega
    have hsz1 : base ≤ wr.heap.size := Nat.le_trans hbase hk1.size
    have Hb1 := Lib.hid hb1
    have Hnum := Lib.hid hnum
    have Hk1 := Lib.hid hk1
    clear hb1 hnum hk1
    by_cases hlt : m < 128
    · have Hof := Lib.hid (ofNat_toNat (n := m) (by omega))
      have Hfin := Lib.hid (show bs ++ numL N = (bs ++ done) ++ [UInt8.ofNat m] by rw [Hnum.out, numL_lt hlt, List.append_assoc])
      go_wp2_with (at_builtin; refine wpList_append_Bts (base := base) _ rfl (.tmp 16) (.tmp 19) 47 47 rfl 5 i0 Tryd.underlying47 hi0 hz0 hz1 hz2 rfl (Hb1.out.ext ((Keeps.refl _ _).alloc _)) _ 1 [UInt8.ofNat m] rfl (src_byte _ _ _ _ Hof.out.symm _ _ (blk_new _ _)) (by omega) (by simp; omega) ?_; intro A3 c3 w3 hb3 hg3 hat3; have Hk3 := Lib.hid (Keeps.grown_base (a := w) (Hk1.out.alloc _) (Hb1.out.ext ((Keeps.refl _ _).alloc _)) hg3); have Hb3 := Lib.hid hb3; clear hb3 hg3 hat3)
      go_ret
      refine ⟨A3, c3, k + 1, rfl, ?_, Hk3.out⟩
      rw [Hfin.out]
      exact Hb3.out
    · have Hof := Lib.hid (show ((UInt8.ofNat (m % 128 + 128)).toNat : Int) = (m : Int) % 128 + 128 by rw [ofNat_toNat (n := m % 128 + 128) (by omega)]; omega)
      have Hst := Lib.hid (show numL N = (done ++ [UInt8.ofNat (m % 128 + 128)]) ++ numL (m / 128) by rw [Hnum.out, numL_ge hlt, List.append_assoc]; rfl)
      have e1 := i64_and127 (m : Int)
      have e2 := u8_or128_right ((m : Int) % 128) (by omega) (by omega)
      go_wp2_with (at_builtin; refine wpList_append_Bts (base := base) _ rfl (.tmp 7) (.tmp 12) 47 47 rfl 5 i0 Tryd.underlying47 hi0 hz0 hz1 hz2 rfl (Hb1.out.ext ((Keeps.refl _ _).alloc _)) _ 1 [UInt8.ofNat (m % 128 + 128)] rfl (src_byte _ _ _ _ Hof.out.symm _ _ (blk_new _ _)) (by omega) (by simp; omega) ?_; intro A3 c3 w3 hb3 hg3 hat3; have Hk3 := Lib.hid (Keeps.grown_base (a := w) (Hk1.out.alloc _) (Hb1.out.ext ((Keeps.refl _ _).alloc _)) hg3); have Hb3 := Lib.hid hb3; clear hb3 hg3 hat3)
      go_roundw
      case rel => exact ⟨m / 128, k + 1, A3, c3, done ++ [UInt8.ofNat (m % 128 + 128)], by omega, by go_num, rfl, by rw [← List.append_assoc]; exact Hb3.out, Hst.out, Hk3.out⟩
      case measure => simp [intOf]; omega
end Go.Proofs.YtmhkgfoimkonoaaDoor
