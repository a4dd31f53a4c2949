/-
  What is proved here: the document's Encode of an event is the plain function's bytes. Conditions: the event may be.
-/
import Derived.Test.YtihdeidaekheoaaDoorEvEnc
import Derived.Deep.RegionLaw
import Derived.Deep.RegionHeld3
import Derived.Deep.DeepCutAuto
namespace Go.Proofs.YtihdeidaekheoaaDoor
open Go Go.RowKit Go.Proofs
attribute [local go_sem ↓] Go.wp_at_zero Go.wp_at_succ

theorem step_append_Bts {P : Program} {base : Nat} {v : Value} {n : Nat} {bs : List UInt8} (w : World) {ops : Array Oper} {o : Oper} {a : Act} {K : Act → World → Prop} {Q : Exit → Act → World → Prop} {E : Prop} (hgd : o.guard = none) (s y : Operand) (t tx : TypeId)
    (hop : o.op = .call { callee := .builtin .append, args := #[s, y], argTypes := #[t, tx] })
    (e : TypeId) (i : TypeInfo) (ht : P.underlying t = some (.slice e)) (hi : P.info? e = some i) (hz : i.zero = some (.int .u8 0)) (h1 : i.size = 1) (hby : i.bytes = 1)
    (hsv : a.eval s = v) (hb : Bts w base v n bs) (x : Value) (m : Nat) (news : List UInt8) (hx : a.eval y = x) (hs : Go.Src P 1 tx x m (news.map byteV) w) (hm : n + m ≤ 1073741824) (hbase : base ≤ w.heap.size)
    (h : ∀ A' c' w', Bts w' base (.slice A' (n + m) c') (n + m) (bs ++ news) → w.grownBy w' v.ownBlock → ((Value.slice A' (n + m) c').ownBlock = v.ownBlock ∨ (Value.slice A' (n + m) c').ownBlock = some w.heap.size) → K (a.put o.dst (.slice A' (n + m) c')) w') :
    if Region.wanted o (yielded ops a.tmps) = true then Oper.wp P o a w K Q else E := by
  have hw : Region.wanted o (yielded ops a.tmps) = true := by simp [Region.wanted, hgd]
  rw [if_pos hw]
  exact wp_append_Bts w s y t tx hop e i ht hi hz h1 hby hsv hb x m news hx hs hm hbase h
def BPost (bs : List UInt8) (w : World) (e : Ending) (w' : World) : Prop := ∃ A c m, e = .returned (.slice A m c) ∧ Bts w' w.heap.size (.slice A m c) m bs ∧ Ext w w'

set_option maxRecDepth 100000 in
set_option maxHeartbeats 4000000 in
theorem ref_word (s : ByteArray) (hs : s.size ≤ 255) (w : World) : Calls Tryd.prog 62 #[.string s] w (BPost (wordL s) w) := by
  obtain ⟨i0, hi0, hz0, hz1, hz2⟩ := info_parts info_byte
  have Hof := Lib.hid (show (s.size : Int) = ((UInt8.ofNat s.size).toNat : Int) from (ofNat_toNat (n := s.size) (by omega)).symm)
  have Hb0 := Lib.hid (show Bts (w.alloc (.cells #[.int .u8 (s.size : Int)] 5)) w.heap.size (.slice (some ⟨w.heap.size, 0, none⟩) 1 1) 1 [UInt8.ofNat s.size] from Bts.one_new (blk_new _ _) Hof.out (Nat.le_refl _))
  have Hob := Lib.hid (show ∀ g, (Value.slice (some ⟨w.heap.size, 0, none⟩) 1 1).ownBlock = some g → g < w.heap.size → ¬ True from fun g hg hl => by simp [Value.ownBlock] at hg; omega)
  go_enter Tryd.func62, Tryd.ntmps62
  go_wp2_with (at_builtin; refine wpList_append_Bts (base := w.heap.size) _ rfl (.tmp 6) (.tmp 7) 28 9 rfl 5 i0 Tryd.underlying28 hi0 hz0 hz1 hz2 rfl Hb0.out _ s.size s.data.toList rfl (src_text _ _) (by omega) (by simp) ?_; intro A4 c4 w4 hb4 hg4 hat4; have Hx4 := Lib.hid (show Ext w w4 from Keeps.grown ((Keeps.refl _ _).alloc _) hg4 Hob.out); have Hb4 := Lib.hid hb4; clear hb4 hg4 hat4)
  go_ret
  exact ⟨A4, c4, 1 + s.size, rfl, Hb4.out, Hx4.out⟩

set_option maxRecDepth 100000 in
set_option maxHeartbeats 4000000 in
theorem ref_number (N : Nat) (hN : N ≤ 1099511627776) (w : World) : Calls Tryd.prog 63 #[.int .i64 (N : Int)] w (BPost (numL N) w) := by
  obtain ⟨i0, hi0, hz0, hz1, hz2⟩ := info_parts info_byte
  have h6 := numL_6 hN
  go_enter Tryd.func63, Tryd.ntmps63
  go_wp2_with fail
  go_loopw [0, 3] (fun i v wr => ∃ (m k : Nat) (A : Option Addr) (c : Nat) (done : List UInt8), m ≤ N ∧ i = .int .i64 m ∧ v = .slice A k c ∧ Bts wr w.heap.size (.slice A k c) k done ∧ numL N = done ++ numL m ∧ Ext w wr) (fun i _ _ => (intOf i).toNat)
  case atStart => exact ⟨N, 0, _, 0, [], Nat.le_refl _, rfl, rfl, ⟨rfl, .inr ⟨w.heap.size, 0, rfl, Nat.le_refl _, Nat.le_refl _, Nat.zero_le _, by simp, fun j hj => absurd hj (by omega), fun j u hu => by simp at hu⟩⟩, rfl, (Keeps.refl _ _).alloc _⟩
  case round =>
    obtain ⟨m, k, A1, c1, done, hm, rfl, rfl, hb1, hnum, hk1⟩ := hrel
    have hkl : k ≤ 6 := by
      have h7 := hb1.1
      have h8 := congrArg List.length hnum
      rw [List.length_append] at h8
      omega
    have hsz1 : w.heap.size ≤ wr.heap.size := hk1.size
    have Hb1 := Lib.hid hb1
    have Hnum := Lib.hid hnum
    have Hk1 := Lib.hid hk1
    have Hlt := Lib.hid hb1.lt
    clear hb1 hnum hk1
    by_cases hlt : m < 128
    · have Hof := Lib.hid (ofNat_toNat (n := m) (by omega))
      have Hfin := Lib.hid (show numL N = done ++ [UInt8.ofNat m] by rw [Hnum.out, numL_lt hlt])
      go_wp2_with (at_builtin; refine wpList_append_Bts (base := w.heap.size) _ rfl (.tmp 16) (.tmp 19) 28 28 rfl 5 i0 Tryd.underlying28 hi0 hz0 hz1 hz2 rfl (Hb1.out.ext ((Keeps.refl _ _).alloc _)) _ 1 [UInt8.ofNat m] rfl (src_byte _ _ _ _ Hof.out.symm _ _ (blk_new _ _)) (by omega) (by simp; omega) ?_; intro A3 c3 w3 hb3 hg3 hat3; have Hk3 := Lib.hid (show Ext w w3 from Keeps.grown (Hk1.out.alloc _) hg3 (fun g hg hl => by have := (Hlt.out g hg).1; omega)); have Hb3 := Lib.hid hb3; clear hb3 hg3 hat3)
      go_ret
      refine ⟨A3, c3, k + 1, rfl, ?_, Hk3.out⟩
      rw [Hfin.out]
      exact Hb3.out
    · have Hof := Lib.hid (show ((UInt8.ofNat (m % 128 + 128)).toNat : Int) = (m : Int) % 128 + 128 by rw [ofNat_toNat (n := m % 128 + 128) (by omega)]; omega)
      have Hst := Lib.hid (show numL N = (done ++ [UInt8.ofNat (m % 128 + 128)]) ++ numL (m / 128) by rw [Hnum.out, numL_ge hlt, List.append_assoc]; rfl)
      go_wp2_with (at_builtin; refine wpList_append_Bts (base := w.heap.size) _ rfl (.tmp 7) (.tmp 12) 28 28 rfl 5 i0 Tryd.underlying28 hi0 hz0 hz1 hz2 rfl (Hb1.out.ext ((Keeps.refl _ _).alloc _)) _ 1 [UInt8.ofNat (m % 128 + 128)] rfl (src_byte _ _ _ _ Hof.out.symm _ _ (blk_new _ _)) (by omega) (by simp; omega) ?_; intro A3 c3 w3 hb3 hg3 hat3; have Hk3 := Lib.hid (show Ext w w3 from Keeps.grown (Hk1.out.alloc _) hg3 (fun g hg hl => by have := (Hlt.out g hg).1; omega)); have Hb3 := Lib.hid hb3; clear hb3 hg3 hat3)
      go_roundw
      case rel => exact ⟨m / 128, k + 1, A3, c3, done ++ [UInt8.ofNat (m % 128 + 128)], by omega, by go_num, rfl, Hb3.out, Hst.out, Hk3.out⟩
      case measure => simp [intOf]; omega
theorem ref_numberI (z : Int) (h0 : 0 ≤ z) (h1 : z ≤ 1099511627776) (w : World) : Calls Tryd.prog 63 #[.int .i64 z] w (BPost (numL z.toNat) w) := by
  obtain ⟨N, rfl⟩ : ∃ N : Nat, z = N := ⟨z.toNat, by omega⟩
  exact ref_number N (by omega) w
set_option maxRecDepth 100000 in
set_option maxHeartbeats 8000000 in
theorem ref_Encode (e : Ev) (w : World) (h : mayE e = true) : Calls Tryd.prog 33 #[.agg #[.string e.src, .int .i64 e.num, .int .i64 e.tick, .int .i64 e.kind, .string e.person, .string e.item, .int .i64 e.value, .string e.text]] w (BPost (encE e) w) := by
  have hF := mayF h
  have hk0 := hF.kind0
  have hk1 := hF.kind1
  have z1 := (nameB_size hF.src).2
  have z2 := hF.psize
  have z3 := hF.isize
  have z4 := hF.tsize
  have HF := Lib.hid hF
  obtain ⟨i0, hi0, hz0, hz1, hz2⟩ := info_parts info_byte
  have Hof := Lib.hid (show e.kind = ((UInt8.ofNat e.kind.toNat).toNat : Int) by rw [ofNat_toNat (by omega)]; omega)
  have l1 := wordL_len e.src
  have l2 := numL_6 (n := e.num.toNat) (by have := hF.num1; omega)
  have l3 := numL_6 (n := e.tick.toNat) (by have := hF.tick1; omega)
  have l4 := wordL_len e.person
  have l5 := wordL_len e.item
  have l6 := numL_6 (n := e.value.toNat) (by have := hF.value1; omega)
  have l7 := wordL_len e.text
  have HL := Lib.hid (show (wordL e.src).length ≤ 25 ∧ (wordL e.person).length ≤ 25 ∧ (wordL e.item).length ≤ 25 ∧ (wordL e.text).length ≤ 225 from ⟨by omega, by omega, by omega, by omega⟩)
  clear hF l1 l4 l5 l7
  go_enter Tryd.func33, Tryd.ntmps33
  go_wp2_with fail
  obtain ⟨X, hX⟩ : ∃ X, X = w.alloc (.cells #[.string e.src, .int .i64 e.num, .int .i64 e.tick, .int .i64 e.kind, .string e.person, .string e.item, .int .i64 e.value, .string e.text] 24) := ⟨_, rfl⟩
  rw [← hX]
  have gX : X.heap[w.heap.size]? = some (.cells #[.string e.src, .int .i64 e.num, .int .i64 e.tick, .int .i64 e.kind, .string e.person, .string e.item, .int .i64 e.value, .string e.text] 24) := by rw [hX]; exact blk_new _ _
  have hxX : Ext w X := by rw [hX]; exact (Keeps.refl _ _).alloc _
  have HgX := Lib.hid gX
  have HxX := Lib.hid hxX
  have wsz : w.heap.size < X.heap.size := (Array.getElem?_eq_some_iff.1 gX).1
  have q0 := blk_cell gX 0 rfl
  have q3 := blk_cell gX 3 rfl
  have wk : IntKind.u8.wrap e.kind = e.kind := by rw [IntKind.wrap_u8]; omega
  clear hX gX hxX
  go_cut [3] (fun s3 wc => ∃ A c m, s3 = .slice A m c ∧ Bts wc X.heap.size (.slice A m c) m ([UInt8.ofNat e.kind.toNat] ++ wordL e.src) ∧ Ext X wc)
  case first =>
    go_region_held3 (fun w' => X.heap.size ≤ w'.heap.size ∧ ∀ p : Addr, p.block < X.heap.size → w'.cell? p = X.cell? p) (repeat (first | with_reducible assumption | with_reducible exact Old.refl _ | with_reducible refine Old.drew ?_ | with_reducible refine Old.alloc ?_ _)) (first
      | (go_at_call 62; refine (ref_word e.src (by omega) _).mono ?_; rintro _ w4 ⟨A4, c4, m4, rfl, hb4, hx4⟩; have hy : Ext X w4 := Keeps.trans (by repeat (first | assumption | with_reducible exact Keeps.refl _ _ | with_reducible refine Keeps.drew ?_ | with_reducible refine Keeps.alloc ?_ _)) hx4; have hm4 : m4 ≤ 25 := Nat.le_trans (Nat.le_of_eq hb4.1.symm) HL.out.1; have hsz4 := hy.size; have hO4 : Old X w4 := Old.of_ext hy)
      | (refine step_append_Bts (base := X.heap.size) _ (by rfl) (.tmp 7) (.tmp 10) 28 28 (by rfl) 5 i0 Tryd.underlying28 hi0 hz0 hz1 hz2 (by rfl) (Bts.one_new (x := UInt8.ofNat e.kind.toNat) (blk_new _ _) Hof.out hsz4) _ m4 (wordL e.src) (by rfl) ((hb4.ext ((Keeps.refl _ _).alloc _)).src Tryd.underlying28) (by omega) (by simp; omega) ?_; intro A5 c5 w5 hb5 hg5 hat5; have hO5 : Old X w5 := Old.grown (by repeat (first | with_reducible assumption | with_reducible refine Old.alloc ?_ _)) hg5 (fun g hg => by simp [Value.ownBlock] at hg; omega))
      | (refine step_append_Bts (base := X.heap.size) _ (by rfl) (.tmp 7) (.tmp 10) 28 28 (by rfl) 5 i0 Tryd.underlying28 hi0 hz0 hz1 hz2 (by rfl) (((Bts.one_new (x := UInt8.ofNat e.kind.toNat) (blk_new _ _) Hof.out (Nat.le_refl _)).ext ((Keeps.refl _ _).drew)).ext hx4) _ m4 (wordL e.src) (by rfl) (hb4.src Tryd.underlying28) (by omega) (by omega) ?_; intro A5 c5 w5 hb5 hg5 hat5; have hO5 : Old X w5 := Old.grown (by repeat (first | with_reducible assumption | with_reducible refine Old.alloc ?_ _)) hg5 (fun g hg => by simp [Value.ownBlock] at hg; omega)))
    all_goals
      go_wp2_with fail
      go_meet
      refine ⟨A5, c5, 1 + m4, rfl, hb5, ?_⟩
      exact Keeps.grown (by repeat (first | assumption | with_reducible exact Keeps.refl _ _ | with_reducible refine Keeps.drew ?_ | with_reducible refine Keeps.alloc ?_ _)) hg5 (fun g hg hl => by simp [Value.ownBlock] at hg; omega)
  case rest =>
    obtain ⟨A0, c0, m0, hs3, hb0, hx0⟩ := hcut
    subst hs3
    obtain ⟨Y0, hY⟩ : ∃ Y, Y = wc := ⟨_, rfl⟩
    rw [← hY] at hb0 hx0 ⊢
    obtain ⟨B0, hB0⟩ : ∃ B, B = [UInt8.ofNat e.kind.toNat] ++ wordL e.src := ⟨_, rfl⟩
    rw [← hB0] at hb0
    have hm0 : m0 ≤ 26 := by rw [← hb0.1, hB0, List.length_append]; have h9 := HL.out; simp only [List.length_cons, List.length_nil]; omega
    have HB0 := Lib.hid hB0
    have Hb0 := Lib.hid hb0
    have Hx0 := Lib.hid hx0
    have hsz0 : X.heap.size ≤ Y0.heap.size := hx0.size
    have p0 := blk_cell (hx0.blk HgX.out) 1 rfl
    clear hY hb0 hx0 hB0 q0 q3
    go_wp2_with fail
    refine (ref_numberI e.num HF.out.num00 HF.out.num1 _).mono ?_
    rintro _ V1 ⟨Av, cv, mv, rfl, hbv, hxv⟩
    have hmv : mv ≤ 6 := Nat.le_trans (Nat.le_of_eq hbv.1.symm) l2
    have Hbv := Lib.hid hbv
    have Hxv := Lib.hid (Hx0.out.trans hxv)
    have HbO := Lib.hid (Hb0.out.ext hxv)
    have hszv : X.heap.size ≤ V1.heap.size := Hxv.out.size
    clear hbv hxv p0
    go_wp2_with (at_builtin; refine wpList_append_Bts (base := X.heap.size) _ rfl (.tmp 12) (.tmp 15) 28 28 rfl 5 i0 Tryd.underlying28 hi0 hz0 hz1 hz2 rfl HbO.out _ mv (numL e.num.toNat) rfl (Hbv.out.src Tryd.underlying28) (by omega) hszv ?_; intro A1 c1 Y1 hbn hgn hatn; have hxn : Ext X Y1 := Keeps.grown Hxv.out hgn (fun g hg hl => by have := (HbO.out.lt g hg).1; omega); have p1 := blk_cell (hxn.blk HgX.out) 2 rfl; have Hb1' := Lib.hid hbn; have Hx1 := Lib.hid hxn; clear hbn hgn hatn hxn)
    obtain ⟨m1, hme1⟩ : ∃ m, m = m0 + mv := ⟨_, rfl⟩
    rw [← hme1] at Hb1' ⊢
    have hm1 : m1 ≤ 32 := by omega
    obtain ⟨B1, hB1⟩ : ∃ B, B = B0 ++ numL e.num.toNat := ⟨_, rfl⟩
    rw [← hB1] at Hb1'
    have HB1 := Lib.hid hB1
    have Hb1 := Lib.hid Hb1'.out
    clear hB1 hme1 Hb1' Hbv HbO Hxv hmv hszv
    go_wp2_with fail
    refine (ref_numberI e.tick HF.out.tick0 HF.out.tick1 _).mono ?_
    rintro _ V2 ⟨Av, cv, mv, rfl, hbv, hxv⟩
    have hmv : mv ≤ 6 := Nat.le_trans (Nat.le_of_eq hbv.1.symm) l3
    have Hbv := Lib.hid hbv
    have Hxv := Lib.hid (Hx1.out.trans hxv)
    have HbO := Lib.hid (Hb1.out.ext hxv)
    have hszv : X.heap.size ≤ V2.heap.size := Hxv.out.size
    clear hbv hxv p1
    go_wp2_with (at_builtin; refine wpList_append_Bts (base := X.heap.size) _ rfl (.tmp 17) (.tmp 20) 28 28 rfl 5 i0 Tryd.underlying28 hi0 hz0 hz1 hz2 rfl HbO.out _ mv (numL e.tick.toNat) rfl (Hbv.out.src Tryd.underlying28) (by omega) hszv ?_; intro A2 c2 Y2 hbn hgn hatn; have hxn : Ext X Y2 := Keeps.grown Hxv.out hgn (fun g hg hl => by have := (HbO.out.lt g hg).1; omega); have p2 := blk_cell (hxn.blk HgX.out) 4 rfl; have Hb2' := Lib.hid hbn; have Hx2 := Lib.hid hxn; clear hbn hgn hatn hxn)
    obtain ⟨m2, hme2⟩ : ∃ m, m = m1 + mv := ⟨_, rfl⟩
    rw [← hme2] at Hb2' ⊢
    have hm2 : m2 ≤ 38 := by omega
    obtain ⟨B2, hB2⟩ : ∃ B, B = B1 ++ numL e.tick.toNat := ⟨_, rfl⟩
    rw [← hB2] at Hb2'
    have HB2 := Lib.hid hB2
    have Hb2 := Lib.hid Hb2'.out
    clear hB2 hme2 Hb2' Hbv HbO Hxv hmv hszv
    go_wp2_with fail
    refine (ref_word e.person (by omega) _).mono ?_
    rintro _ V3 ⟨Av, cv, mv, rfl, hbv, hxv⟩
    have hmv : mv ≤ 25 := Nat.le_trans (Nat.le_of_eq hbv.1.symm) HL.out.2.1
    have Hbv := Lib.hid hbv
    have Hxv := Lib.hid (Hx2.out.trans hxv)
    have HbO := Lib.hid (Hb2.out.ext hxv)
    have hszv : X.heap.size ≤ V3.heap.size := Hxv.out.size
    clear hbv hxv p2
    go_wp2_with (at_builtin; refine wpList_append_Bts (base := X.heap.size) _ rfl (.tmp 22) (.tmp 25) 28 28 rfl 5 i0 Tryd.underlying28 hi0 hz0 hz1 hz2 rfl HbO.out _ mv (wordL e.person) rfl (Hbv.out.src Tryd.underlying28) (by omega) hszv ?_; intro A3 c3 Y3 hbn hgn hatn; have hxn : Ext X Y3 := Keeps.grown Hxv.out hgn (fun g hg hl => by have := (HbO.out.lt g hg).1; omega); have p3 := blk_cell (hxn.blk HgX.out) 5 rfl; have Hb3' := Lib.hid hbn; have Hx3 := Lib.hid hxn; clear hbn hgn hatn hxn)
    obtain ⟨m3, hme3⟩ : ∃ m, m = m2 + mv := ⟨_, rfl⟩
    rw [← hme3] at Hb3' ⊢
    have hm3 : m3 ≤ 63 := by omega
    obtain ⟨B3, hB3⟩ : ∃ B, B = B2 ++ wordL e.person := ⟨_, rfl⟩
    rw [← hB3] at Hb3'
    have HB3 := Lib.hid hB3
    have Hb3 := Lib.hid Hb3'.out
    clear hB3 hme3 Hb3' Hbv HbO Hxv hmv hszv
    go_wp2_with fail
    refine (ref_word e.item (by omega) _).mono ?_
    rintro _ V4 ⟨Av, cv, mv, rfl, hbv, hxv⟩
    have hmv : mv ≤ 25 := Nat.le_trans (Nat.le_of_eq hbv.1.symm) HL.out.2.2.1
    have Hbv := Lib.hid hbv
    have Hxv := Lib.hid (Hx3.out.trans hxv)
    have HbO := Lib.hid (Hb3.out.ext hxv)
    have hszv : X.heap.size ≤ V4.heap.size := Hxv.out.size
    clear hbv hxv p3
    go_wp2_with (at_builtin; refine wpList_append_Bts (base := X.heap.size) _ rfl (.tmp 27) (.tmp 30) 28 28 rfl 5 i0 Tryd.underlying28 hi0 hz0 hz1 hz2 rfl HbO.out _ mv (wordL e.item) rfl (Hbv.out.src Tryd.underlying28) (by omega) hszv ?_; intro A4 c4 Y4 hbn hgn hatn; have hxn : Ext X Y4 := Keeps.grown Hxv.out hgn (fun g hg hl => by have := (HbO.out.lt g hg).1; omega); have p4 := blk_cell (hxn.blk HgX.out) 6 rfl; have Hb4' := Lib.hid hbn; have Hx4 := Lib.hid hxn; clear hbn hgn hatn hxn)
    obtain ⟨m4, hme4⟩ : ∃ m, m = m3 + mv := ⟨_, rfl⟩
    rw [← hme4] at Hb4' ⊢
    have hm4 : m4 ≤ 88 := by omega
    obtain ⟨B4, hB4⟩ : ∃ B, B = B3 ++ wordL e.item := ⟨_, rfl⟩
    rw [← hB4] at Hb4'
    have HB4 := Lib.hid hB4
    have Hb4 := Lib.hid Hb4'.out
    clear hB4 hme4 Hb4' Hbv HbO Hxv hmv hszv
    go_wp2_with fail
    refine (ref_numberI e.value HF.out.value0 HF.out.value11 _).mono ?_
    rintro _ V5 ⟨Av, cv, mv, rfl, hbv, hxv⟩
    have hmv : mv ≤ 6 := Nat.le_trans (Nat.le_of_eq hbv.1.symm) l6
    have Hbv := Lib.hid hbv
    have Hxv := Lib.hid (Hx4.out.trans hxv)
    have HbO := Lib.hid (Hb4.out.ext hxv)
    have hszv : X.heap.size ≤ V5.heap.size := Hxv.out.size
    clear hbv hxv p4
    go_wp2_with (at_builtin; refine wpList_append_Bts (base := X.heap.size) _ rfl (.tmp 32) (.tmp 35) 28 28 rfl 5 i0 Tryd.underlying28 hi0 hz0 hz1 hz2 rfl HbO.out _ mv (numL e.value.toNat) rfl (Hbv.out.src Tryd.underlying28) (by omega) hszv ?_; intro A5 c5 Y5 hbn hgn hatn; have hxn : Ext X Y5 := Keeps.grown Hxv.out hgn (fun g hg hl => by have := (HbO.out.lt g hg).1; omega); have p5 := blk_cell (hxn.blk HgX.out) 7 rfl; have Hb5' := Lib.hid hbn; have Hx5 := Lib.hid hxn; clear hbn hgn hatn hxn)
    obtain ⟨m5, hme5⟩ : ∃ m, m = m4 + mv := ⟨_, rfl⟩
    rw [← hme5] at Hb5' ⊢
    have hm5 : m5 ≤ 94 := by omega
    obtain ⟨B5, hB5⟩ : ∃ B, B = B4 ++ numL e.value.toNat := ⟨_, rfl⟩
    rw [← hB5] at Hb5'
    have HB5 := Lib.hid hB5
    have Hb5 := Lib.hid Hb5'.out
    clear hB5 hme5 Hb5' Hbv HbO Hxv hmv hszv
    go_wp2_with fail
    refine (ref_word e.text (by omega) _).mono ?_
    rintro _ V6 ⟨Av, cv, mv, rfl, hbv, hxv⟩
    have hmv : mv ≤ 225 := Nat.le_trans (Nat.le_of_eq hbv.1.symm) HL.out.2.2.2
    have Hbv := Lib.hid hbv
    have Hxv := Lib.hid (Hx5.out.trans hxv)
    have HbO := Lib.hid (Hb5.out.ext hxv)
    have hszv : X.heap.size ≤ V6.heap.size := Hxv.out.size
    clear hbv hxv p5
    go_wp2_with (at_builtin; refine wpList_append_Bts (base := X.heap.size) _ rfl (.tmp 37) (.tmp 40) 28 28 rfl 5 i0 Tryd.underlying28 hi0 hz0 hz1 hz2 rfl HbO.out _ mv (wordL e.text) rfl (Hbv.out.src Tryd.underlying28) (by omega) hszv ?_; intro A6 c6 Y6 hbn hgn hatn; have hxn : Ext X Y6 := Keeps.grown Hxv.out hgn (fun g hg hl => by have := (HbO.out.lt g hg).1; omega); have Hb6' := Lib.hid hbn; have Hx6 := Lib.hid hxn; clear hbn hgn hatn hxn)
    go_ret
    have hE : B5 ++ wordL e.text = encE e := by rw [HB5.out, HB4.out, HB3.out, HB2.out, HB1.out, HB0.out]; rfl
    refine ⟨A6, c6, m5 + mv, rfl, ?_, HxX.out.trans Hx6.out⟩
    rw [← hE]
    exact Hb6'.out.base_le (Nat.le_of_lt wsz)
end Go.Proofs.YtihdeidaekheoaaDoor
