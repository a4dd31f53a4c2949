/-
  What is proved here: a chain's bytes are what the plain function says. Conditions: the library's table of powers holds what its text lays; at most 1,000 entries, each in range.
-/
import Derived.Test.YtkfcbafmefdhmaaDoorChain1
namespace Go.Proofs.YtkfcbafmefdhmaaDoor
open Go Go.RowKit Go.Proofs
attribute [local go_sem ↓] Go.wp_at_zero Go.wp_at_succ

/-- An entry that can be written. -/
structure EntOk (e : Ent) : Prop where
  n : e.items.length ≤ 1000
  p : e.person.size ≤ 1000
  i : ∀ s ∈ e.items, s.size ≤ 1000
  o1 : 0 ≤ e.off
  o2 : e.off ≤ 1099511627776
  t1 : 0 ≤ e.now
  t2 : e.now ≤ 1099511627776
  s1 : 0 ≤ e.sum
  s2 : e.sum < 18446744073709551616
  l : (lineL e).length ≤ 100000
def linesL (es : List Ent) : List UInt8 := es.flatMap fun e => lineL e ++ [10]
def encL (seed : Int) (es : List Ent) : List UInt8 := headL seed ++ [10] ++ linesL es
theorem linesL_snoc (es : List Ent) (k : Nat) (e : Ent) (h : es[k]? = some e) : linesL (es.take (k + 1)) = linesL (es.take k) ++ lineL e ++ [10] := by
  unfold linesL
  rw [List.take_add_one, h, List.flatMap_append]
  simp
theorem linesL_len (es : List Ent) (h : ∀ e ∈ es, EntOk e) : (linesL es).length ≤ es.length * 100001 := by
  unfold linesL
  induction es with
  | nil => simp
  | cons e es ih =>
    have h1 := (h e (by simp)).l
    have h2 := ih (fun x hx => h x (by simp [hx]))
    simp only [List.flatMap_cons, List.length_append, List.length_cons, List.length_nil]
    rw [Nat.succ_mul]; omega
theorem headL_len (n : Int) (h1 : n < 18446744073709551616) : (headL n).length ≤ 2000 := by
  have := dec_len n.toNat (by omega)
  unfold headL; simp; omega
theorem info_u8 : (Tryd.prog.info? 5).map (fun i => (i.zero, i.size, i.bytes)) = some (some (.int .u8 0), 1, 1) := by kernel_rfl
theorem src_one (w : World) (g : Nat) (x : UInt8) (t : TypeId) (fr : Nat × Nat) (hg : w.heap[g]? = some (.cells #[.int .u8 (x.toNat : Int)] t fr)) : Go.Src Tryd.prog 1 39 (.slice (some ⟨g, 0, none⟩) 1 1) 1 ([x].map byteV) w :=
  Go.Src.ofSlice w Tryd.underlying39 ⟨g, 0, none⟩ 1 1 _ (by simp) (fun j u hu => by
    match j, hu with
    | 0, hu => simp [byteV] at hu; subst hu; rw [ad_add]; exact blk_cell hg 0 rfl) (byteV_one [x])
theorem src_str (w : World) (l : List UInt8) : Go.Src Tryd.prog 1 9 (.string ⟨l.toArray⟩) l.length (l.map byteV) w := by
  have := Go.Src.ofString (P := Tryd.prog) (tx := 9) w Tryd.underlying9 ⟨l.toArray⟩
  rw [byteCells_eq] at this
  exact this

set_option maxRecDepth 100000 in
set_option maxHeartbeats 4000000 in
theorem chain_Encode (b : Nat) (seed : Int) (h0 : 0 ≤ seed) (h1 : seed < 18446744073709551616) (es : List Ent) (v : Value) (w : World) (hch : ChainAt w b seed es v) (hes : es.length ≤ 1000) (hok : ∀ e ∈ es, EntOk e) (hpow : Pow w) :
    Calls Tryd.prog 17 #[.pointer (some ⟨b, 0, none⟩)] w fun r w' => ∃ A' n' c', r = .returned (.slice A' n' c') ∧ Bts w' w.heap.size (.slice A' n' c') n' (encL seed es) ∧ Ext w w' := by
  have q0 := blk_cell hch.blk 0 rfl
  have q1 := blk_cell hch.blk 1 rfl
  obtain ⟨A, c, rfl⟩ := hch.own.form
  have hs := hch.own.sl (ok' := fun _ => True) (fun _ _ _ _ => trivial) (fun _ _ _ => trivial)
  obtain ⟨i0, hi0, hz0, hz1, hz2⟩ := info_parts info_u8
  obtain ⟨n, hn⟩ : ∃ n, n = es.length := ⟨_, rfl⟩
  rw [← hn] at q1 hs hes
  have Hblk := Lib.hid hch.blk
  have Hn := Lib.hid hn
  have Hs := Lib.hid hs
  have Hok := Lib.hid hok
  have Hpow := Lib.hid hpow
  have hll := linesL_len es hok
  have hhl := headL_len seed h1
  clear hch hs hok hn hpow
  go_enter Tryd.func17, Tryd.ntmps17
  go_wp2_with fail
  refine (aud_head seed h0 h1 _ Hpow.out).mono ?_
  rintro _ w1 ⟨rfl, hx1⟩
  obtain ⟨cc, w2, hcv, hb2, hx2⟩ := bts_of_string (P := Tryd.prog) (base := w.heap.size) w1 9 39 5 ⟨(headL seed).toArray⟩ Tryd.underlying9 Tryd.underlying39 Tryd.underlying5 (by show (headL seed).toArray.size ≤ _; simp; omega) hx1.size
  have Hcv := Lib.hid hcv
  have Hx2 := Lib.hid (Keeps.trans hx1 hx2)
  have Hb2 := Lib.hid (show Bts w2 w.heap.size (.slice (some ⟨w1.heap.size, 0, none⟩) (headL seed).length cc) (headL seed).length (headL seed) from hb2)
  clear hx1 hx2 hb2
  rw [← Hn.out] at Hblk
  go_wp2_with (at_builtin; refine wpList_append_Bts (base := w.heap.size) _ rfl (.tmp 11) (.tmp 12) 39 39 rfl 5 i0 Tryd.underlying39 hi0 hz0 hz1 hz2 rfl (Hb2.out.ext (by repeat (first | with_reducible exact Keeps.refl _ _ | with_reducible refine Keeps.drew ?_ | with_reducible refine Keeps.drewN ?_ _ | with_reducible refine Keeps.alloc ?_ _))) _ 1 [10] rfl (src_one _ _ 10 _ _ (blk_new _ _)) (by omega) (by have := Hx2.out.size; simp; omega) ?_; intro A3 c3 w3 hb3 hg3 hat3; have Hx3 := Lib.hid (show Ext w w3 from Keeps.grown (Keeps.alloc Hx2.out _) hg3 (fun g hg hl => by have := (Hb2.out.lt g hg).1; omega)); have Hb3 := Lib.hid hb3; have qb := blk_cell (Hx3.out.blk Hblk.out) 1 rfl; clear hb3 hg3 hat3)
  go_loopw [3, 5, 19] (fun l _ i wr => ∃ (k m : Nat) (Al : Option Addr) (cl : Nat), k ≤ n ∧ i = .int .i64 k ∧ l = .slice Al m cl ∧ Bts wr w.heap.size (.slice Al m cl) m (headL seed ++ [10] ++ linesL (es.take k)) ∧ Ext w wr) (fun _ _ i _ => n - (intOf i).toNat)
  case atStart => exact ⟨0, _, A3, c3, Nat.zero_le _, rfl, rfl, by simpa [linesL] using Hb3.out, Hx3.out⟩
  case round =>
    obtain ⟨k, m, Al, cl, hk, rfl, rfl, hbt, hx⟩ := hrel
    by_cases hlt : k < n
    · obtain ⟨b', o, e, A', c', rfl, hb, ho, he, hc', hs', d0, d1, d2, d3, d4⟩ := (Hs.out.ext hx).ent hlt
      have hek := Hok.out e (List.mem_of_getElem? he)
      have hm : m ≤ 200000000 := by
        have h1 := hbt.1
        have h2 := linesL_len (es.take k) (fun x hx => Hok.out x (List.mem_of_mem_take hx))
        simp only [List.length_append, List.length_cons, List.length_nil] at h1
        have h3 : (es.take k).length ≤ 1000 := by simp; omega
        have h4 := Nat.mul_le_mul_right 100001 h3
        omega
      have He := Lib.hid he
      have Hek := Lib.hid hek
      have Hbt := Lib.hid hbt
      have Hx := Lib.hid hx
      have Hs' := Lib.hid hs'
      have hsz := hx.size
      have hle := hek.l
      clear he hbt hx hs' hek
      go_wp2_with fail
      refine (aud_line e A' c' _ _ (Hs'.out.alloc _) hc' Hek.out.n Hek.out.p Hek.out.i Hek.out.o1 Hek.out.o2 Hek.out.t1 Hek.out.t2 Hek.out.s1 Hek.out.s2 (Hpow.out.ext (Keeps.alloc Hx.out _))).mono ?_
      rintro _ w4 ⟨rfl, hx4⟩
      have Hx4 := Lib.hid (Keeps.trans ((Keeps.refl (fun _ => True) wr).alloc _) hx4)
      have hsz4 := Hx4.out.size
      clear hx4 d0 d1 d2 d3 d4
      go_wp2_with (first
        | (at_builtin; refine wpList_append_Bts (base := w.heap.size) _ rfl (.tmp 23) (.tmp 25) 39 9 rfl 5 i0 Tryd.underlying39 hi0 hz0 hz1 hz2 rfl (Hbt.out.ext Hx4.out) _ (lineL e).length (lineL e) rfl (src_str _ _) (by omega) (by omega) ?_; intro A5 c5 w5 hb5 hg5 hat5; have Hx5 := Lib.hid (show Ext w w5 from Keeps.grown (Keeps.trans Hx.out Hx4.out) hg5 (fun g hg hl => by have := (Hbt.out.lt g hg).1; omega)); have Hb5 := Lib.hid hb5; have hsz5 := Hx5.out.size; clear hb5 hg5 hat5)
        | (at_builtin; refine wpList_append_Bts (base := w.heap.size) _ rfl (.tmp 27) (.tmp 28) 39 39 rfl 5 i0 Tryd.underlying39 hi0 hz0 hz1 hz2 rfl (Hb5.out.ext (by repeat (first | with_reducible exact Keeps.refl _ _ | with_reducible refine Keeps.drew ?_ | with_reducible refine Keeps.drewN ?_ _ | with_reducible refine Keeps.alloc ?_ _))) _ 1 [10] rfl (src_one _ _ 10 _ _ (blk_new _ _)) (by omega) (by simp; omega) ?_; intro A6 c6 w6 hb6 hg6 hat6; have Hx6 := Lib.hid (show Ext w w6 from Keeps.grown (Keeps.alloc Hx5.out _) hg6 (fun g hg hl => by have := (Hb5.out.lt g hg).1; omega)); have Hb6 := Lib.hid hb6; clear hb6 hg6 hat6))
      go_roundw
      case rel => exact ⟨k + 1, _, A6, c6, by omega, by go_num, rfl, by rw [linesL_snoc es k e He.out]; simpa using Hb6.out, Hx6.out⟩
      case measure => simp [intOf]; omega
    · obtain rfl : k = n := by omega
      go_wp2_with fail
      go_ret
      exact ⟨Al, m, cl, rfl, by rw [List.take_of_length_le (Nat.le_of_eq Hn.out.symm)] at hbt; exact hbt, hx⟩
end Go.Proofs.YtkfcbafmefdhmaaDoor
