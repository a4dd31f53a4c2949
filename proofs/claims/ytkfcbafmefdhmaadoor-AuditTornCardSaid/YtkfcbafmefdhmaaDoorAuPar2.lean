/-
  What is proved here: the program's parse of a line of five words is the plain function's entry, or none. Conditions: texts of at most a million bytes; the library's variables hold what their text lays.
-/
import Derived.Test.YtkfcbafmefdhmaaDoorAuPar
import Derived.Test.YtkfcbafmefdhmaaDoorChain3
namespace Go.Proofs.YtkfcbafmefdhmaaDoor
open Go Go.RowKit Go.Proofs
attribute [local go_sem ↓] Go.wp_at_zero Go.wp_at_succ
theorem two_new (w : World) (A B : Obj) : ((w.alloc A).alloc B).heap[w.heap.size]? = some A ∧ ((w.alloc A).alloc B).heap[w.heap.size + 1]? = some B := by
  refine ⟨blk_old (blk_new w A) B, ?_⟩
  have := blk_new (w.alloc A) B
  simpa using this
/-- The entry and the errors in the midst of parse. -/
structure PeAt (X : World) (x y : Int) (p : ByteArray) (V : Value) (z : Int) (a b c : Value) (W : World) : Prop where
  g5 : W.heap[X.heap.size]? = some (.cells #[.int .i64 x, .int .i64 y, .string p, V, .int .u64 z] 33)
  g6 : W.heap[X.heap.size + 1]? = some (.cells #[a, b, c] 88)
  ext : Ext X W
theorem PeAt.go {X : World} {x y : Int} {p : ByteArray} {V : Value} {z : Int} {a b c : Value} {W W' : World} (h : PeAt X x y p V z a b c W) (hx : Ext W W') : PeAt X x y p V z a b c W' := ⟨hx.blk h.g5, hx.blk h.g6, h.ext.trans hx⟩
theorem PeAt.set {X : World} {x y : Int} {p : ByteArray} {V : Value} {z : Int} {a b c : Value} {W : World} (h : PeAt X x y p V z a b c W) (i j : Nat) (u v : Value) {C D : Array Value} (hC : (#[.int .i64 x, .int .i64 y, .string p, V, .int .u64 z] : Array Value).setIfInBounds i u = C) (hD : (#[a, b, c] : Array Value).setIfInBounds j v = D) :
    ((W.setCell ⟨X.heap.size, i, none⟩ u).setCell ⟨X.heap.size + 1, j, none⟩ v).heap[X.heap.size]? = some (.cells C 33) ∧ ((W.setCell ⟨X.heap.size, i, none⟩ u).setCell ⟨X.heap.size + 1, j, none⟩ v).heap[X.heap.size + 1]? = some (.cells D 88) ∧ Ext X ((W.setCell ⟨X.heap.size, i, none⟩ u).setCell ⟨X.heap.size + 1, j, none⟩ v) := by
  subst hC hD
  refine ⟨blk_far (blk_set h.g5 i u) (by simp) _, blk_set (blk_far h.g6 (by simp) _) j v, ?_⟩
  refine Keeps.setCell (Keeps.setCell h.ext (fun h9 => ?_) _) (fun h9 => ?_) _
  · simp at h9
  · simp at h9; omega
theorem okN_not {α : Type} {r : Lib.NumEnd α} (h : okN r = false) : ∀ v, r ≠ .ok v := fun v e => by rw [e] at h; cases h
theorem ent_no0 {l w0 w1 w2 w3 w4 : List UInt8} (hl : partsL 32 l = [w0, w1, w2, w3, w4]) (h : okN (Lib.atoiAll w0) = false) : entP l = none := by
  cases h9 : entP l with
  | none => rfl
  | some E => obtain ⟨a, b, u, _, h1, _⟩ := entP_back hl h9; exact absurd h1 (okN_not h _)
theorem ent_no1 {l w0 w1 w2 w3 w4 : List UInt8} (hl : partsL 32 l = [w0, w1, w2, w3, w4]) (h : okN (Lib.atoiAll w1) = false) : entP l = none := by
  cases h9 : entP l with
  | none => rfl
  | some E => obtain ⟨a, b, u, _, _, h1, _⟩ := entP_back hl h9; exact absurd h1 (okN_not h _)
theorem ent_no2 {l w0 w1 w2 w3 w4 : List UInt8} (hl : partsL 32 l = [w0, w1, w2, w3, w4]) (h : okN (Lib.parseUintB 64 w4) = false) : entP l = none := by
  cases h9 : entP l with
  | none => rfl
  | some E => obtain ⟨a, b, u, _, _, _, h1, _⟩ := entP_back hl h9; exact absurd h1 (okN_not h _)
theorem ent_noM {l w0 w1 w2 w3 w4 : List UInt8} (hl : partsL 32 l = [w0, w1, w2, w3, w4]) {x y : Int} {u : Nat} (h0 : Lib.atoiAll w0 = .ok x) (h1 : Lib.atoiAll w1 = .ok y) (h4 : Lib.parseUintB 64 w4 = .ok u) (hm : mayE (⟨x, y, bts w2, itemsP w3, u⟩ : Ent) = false ∨ lineL (⟨x, y, bts w2, itemsP w3, u⟩ : Ent) ≠ l) : entP l = none := by
  cases h9 : entP l with
  | none => rfl
  | some E =>
    obtain ⟨a, b, v, e, a1, a2, a3, a4, a5, _⟩ := entP_back hl h9
    rw [h0] at a1
    rw [h1] at a2
    rw [h4] at a3
    injection a1 with a1
    injection a2 with a2
    injection a3 with a3
    unfold entW at e
    rw [← a1, ← a2, ← a3] at e
    rw [← e] at hm
    rcases hm with hm | hm
    · rw [a4] at hm; cases hm
    · exact absurd a5 hm
theorem itemsP_size {l : List UInt8} {s : ByteArray} (h : s ∈ itemsP l) : s.size ≤ l.length := by
  unfold itemsP at h
  split at h
  · cases h
  · obtain ⟨p, hp, rfl⟩ := List.mem_map.1 h
    rw [bts_size]; exact mem_parts_size 44 l p hp
theorem itemsP_len (l : List UInt8) : (itemsP l).length ≤ l.length + 1 := by
  unfold itemsP
  split
  · simp
  · rw [List.length_map]; exact parts_len 44 l
theorem blk_drewX {w : World} {g : Nat} {o : Obj} (h : w.heap[g]? = some o) : w.drew.heap[g]? = some o := h
theorem parseU_lt {l : List UInt8} {u : Nat} (h : Lib.parseUintB 64 l = .ok u) : u < 18446744073709551616 := by
  rw [Lib.parseUintB_64] at h
  exact Lib.parseMag_lt h
def ErsAt (a b c : Value) (k : Nat) : Prop := (1 ≤ k → a = .nilIface) ∧ (2 ≤ k → b = .nilIface) ∧ (3 ≤ k → c = .nilIface)
set_option maxRecDepth 100000 in
set_option maxHeartbeats 8000000 in
theorem aud_parse_5 (s : ByteArray) (w0 w1 w2 w3 w4 : ByteArray) (w : World) (hs : s.size ≤ 999999) (hv : VarsA w) (hl : (partsL 32 s.data.toList).map bts = [w0, w1, w2, w3, w4]) (hsz : ∀ x ∈ [w0, w1, w2, w3, w4], x.size ≤ 999999) :
    Calls Tryd.prog 39 #[.string s] w (fun e w' => (entP s.data.toList = none ∧ PeNo w e w') ∨ ∃ E, entP s.data.toList = some E ∧ PeYes E w e w') := by
  have HS' := Lib.hid (fun (W : World) (h : Mx W) => (str_Split s 32 W hs h).mono (R' := fun e w' => ∃ b o c, e = .returned (.slice (some ⟨b, o, none⟩) 5 c) ∧ Ext W w' ∧ Sl strR (fun _ => True) w' (some ⟨b, o, none⟩) 5 [w0, w1, w2, w3, w4] ∧ b < w'.heap.size ∧ W.heap.size ≤ b) (fun e w' ⟨A, c, h1, h2, h3⟩ => by
    rw [hl] at h1 h2
    have h4 := h2.sl (ok' := fun _ => True) (fun _ _ _ _ => trivial) (fun _ _ _ => trivial)
    obtain ⟨b, o, rfl, hb, _⟩ := h4.2 (by simp)
    exact ⟨b, o, c, h1, h3, h4, hb, (h2.lt b rfl).1⟩))
  have Hl := Lib.hid (show partsL 32 s.data.toList = [w0.data.toList, w1.data.toList, w2.data.toList, w3.data.toList, w4.data.toList] by
    have h9 := congrArg (List.map (fun s : ByteArray => s.data.toList)) hl
    rw [List.map_map] at h9
    rw [show (List.map ((fun s : ByteArray => s.data.toList) ∘ bts) (partsL 32 s.data.toList)) = partsL 32 s.data.toList by
      conv => rhs; rw [← List.map_id (partsL 32 s.data.toList)]
      apply List.map_congr_left
      intro x _
      exact bts_data x] at h9
    exact h9)
  unfold bts at HS'
  have Hv := Lib.hid hv
  have Hsz := Lib.hid hsz
  have m0 : w0.size ≤ 1000000 := by have := hsz w0 (by simp); omega
  have m1 : w1.size ≤ 1000000 := by have := hsz w1 (by simp); omega
  have m3 : w3.size ≤ 999999 := hsz w3 (by simp)
  have m4 : w4.size ≤ 1000000 := by have := hsz w4 (by simp); omega
  obtain ⟨B0, hB0⟩ : ∃ b, b = okN (Lib.atoiAll w0.data.toList) := ⟨_, rfl⟩
  obtain ⟨B1, hB1⟩ : ∃ b, b = okN (Lib.atoiAll w1.data.toList) := ⟨_, rfl⟩
  obtain ⟨B4, hB4⟩ : ∃ b, b = okN (Lib.parseUintB 64 w4.data.toList) := ⟨_, rfl⟩
  have C0 := Lib.hid (fun (W : World) (h : Er W) => atoi_any w0 W m0 h)
  have C1 := Lib.hid (fun (W : World) (h : Er W) => atoi_any w1 W m1 h)
  have C4 := Lib.hid (fun (W : World) (h : Er W) => parseU_any w4 W m4 h)
  rw [← hB0] at C0
  rw [← hB1] at C1
  rw [← hB4] at C4
  have HB := Lib.hid (And.intro hB0 (And.intro hB1 hB4))
  clear hl hv hsz hB0 hB1 hB4 m0 m1 m4
  go_enter Tryd.func39, Tryd.ntmps39
  go_wp2_with fail
  refine (HS'.out _ (Hv.out.mx.ext ((Keeps.refl _ _).alloc _))).mono ?_
  rintro _ X ⟨b, o, c, rfl, hx1, hsl, hb, hb0⟩
  have hg1 := hx1.blk (blk_new w _)
  have hgl : w.heap.size < X.heap.size := (Array.getElem?_eq_some_iff.1 hg1).1
  have HX := Lib.hid (show Ext w X from Keeps.trans ((Keeps.refl (fun _ => True) w).alloc _) hx1)
  have HgR := Lib.hid hg1
  have s0 := hsl.strAt (k := 0) rfl
  have s1 := hsl.strAt (k := 1) rfl
  have s2 := hsl.strAt (k := 2) rfl
  have s3 := hsl.strAt (k := 3) rfl
  have s4 := hsl.strAt (k := 4) rfl
  simp only [Nat.add_zero] at s0
  have n1 : b ≠ X.heap.size := by omega
  have n2 : b ≠ X.heap.size + 1 := by omega
  clear hx1 hg1 hsl
  go_wp2_with fail
  have hat : PeAt X 0 0 w2 (.slice none 0 0) 0 .nilIface .nilIface .nilIface ((X.alloc (.cells #[.int .i64 0, .int .i64 0, .string w2, .slice none 0 0, .int .u64 0] 33)).alloc (.cells #[.nilIface, .nilIface, .nilIface] 88)) := ⟨(two_new X _ _).1, (two_new X _ _).2, ((Keeps.refl _ _).alloc _).alloc _⟩
  generalize ((X.alloc (.cells #[.int .i64 0, .int .i64 0, .string w2, .slice none 0 0, .int .u64 0] 33)).alloc (.cells #[.nilIface, .nilIface, .nilIface] 88)) = W0 at *
  refine (C0.out _ (Hv.out.er.ext (HX.out.trans hat.ext))).mono ?_
  rintro _ V0 ⟨x0, er0, rfl, hx0, hq0, hv0⟩
  have hat' := hat.go hx0
  have d0 := blk_cell hat'.g5 0 rfl
  have f0 := blk_free hat'.g5
  have d1 := blk_cell hat'.g6 0 rfl
  have f1 := blk_free hat'.g6
  have tq := (hat'.ext.cell (p := ⟨b, o + 1, none⟩) hb trivial).trans s1
  have Hat' := Lib.hid hat'
  have Hv0 := Lib.hid hv0
  clear hat
  clear hx0 hat' hv0
  cases hb0 : B0
  · rw [hb0] at hq0
    obtain ⟨t0, N0, rfl⟩ := hq0
    have Hb0 := Lib.hid hb0
    clear hb0
    go_wp2_with fail
    have hst := Hat'.out.set 0 0 (.int .i64 x0) (.iface t0 (.pointer (some ⟨N0, 0, none⟩))) (C := #[.int .i64 x0, .int .i64 0, .string w2, .slice none 0 0, .int .u64 0]) (D := #[.iface t0 (.pointer (some ⟨N0, 0, none⟩)), .nilIface, .nilIface]) rfl rfl
    have hat1 : PeAt X x0 0 w2 (.slice none 0 0) 0 (.iface t0 (.pointer (some ⟨N0, 0, none⟩))) (.nilIface) (.nilIface) ((V0.setCell ⟨X.heap.size, 0, none⟩ (.int .i64 x0)).setCell ⟨X.heap.size + 1, 0, none⟩ (.iface t0 (.pointer (some ⟨N0, 0, none⟩)))) := ⟨hst.1, hst.2.1, hst.2.2⟩
    generalize ((V0.setCell ⟨X.heap.size, 0, none⟩ (.int .i64 x0)).setCell ⟨X.heap.size + 1, 0, none⟩ (.iface t0 (.pointer (some ⟨N0, 0, none⟩)))) = W1 at *
    have Hat1 := Lib.hid hat1
    clear hst hat1 d0 d1 f0 f1 Hat' tq
    refine (C1.out _ (Hv.out.er.ext (HX.out.trans Hat1.out.ext))).mono ?_
    rintro _ V1 ⟨x1, er1, rfl, hx1, hq1, hv1⟩
    have hat' := Hat1.out.go hx1
    have d0 := blk_cell hat'.g5 1 rfl
    have f0 := blk_free hat'.g5
    have d1 := blk_cell hat'.g6 1 rfl
    have f1 := blk_free hat'.g6
    have tq := (hat'.ext.cell (p := ⟨b, o + 4, none⟩) hb trivial).trans s4
    have Hat' := Lib.hid hat'
    have Hv1 := Lib.hid hv1
    clear hx1 hat' hv1
    cases hb1 : B1
    · rw [hb1] at hq1
      obtain ⟨t1, N1, rfl⟩ := hq1
      have Hb1 := Lib.hid hb1
      clear hb1
      go_wp2_with fail
      have hst := Hat'.out.set 1 1 (.int .i64 x1) (.iface t1 (.pointer (some ⟨N1, 0, none⟩))) (C := #[.int .i64 x0, .int .i64 x1, .string w2, .slice none 0 0, .int .u64 0]) (D := #[.iface t0 (.pointer (some ⟨N0, 0, none⟩)), .iface t1 (.pointer (some ⟨N1, 0, none⟩)), .nilIface]) rfl rfl
      have hat2 : PeAt X x0 x1 w2 (.slice none 0 0) 0 (.iface t0 (.pointer (some ⟨N0, 0, none⟩))) (.iface t1 (.pointer (some ⟨N1, 0, none⟩))) (.nilIface) ((V1.setCell ⟨X.heap.size, 1, none⟩ (.int .i64 x1)).setCell ⟨X.heap.size + 1, 1, none⟩ (.iface t1 (.pointer (some ⟨N1, 0, none⟩)))) := ⟨hst.1, hst.2.1, hst.2.2⟩
      generalize ((V1.setCell ⟨X.heap.size, 1, none⟩ (.int .i64 x1)).setCell ⟨X.heap.size + 1, 1, none⟩ (.iface t1 (.pointer (some ⟨N1, 0, none⟩)))) = W2 at *
      have Hat2 := Lib.hid hat2
      clear hst hat2 d0 d1 f0 f1 Hat' tq
      refine (C4.out _ (Hv.out.er.ext (HX.out.trans Hat2.out.ext))).mono ?_
      rintro _ V2 ⟨x2, er2, rfl, hx2, hq2, hv2⟩
      have hat' := Hat2.out.go hx2
      have d0 := blk_cell hat'.g5 4 rfl
      have f0 := blk_free hat'.g5
      have d1 := blk_cell hat'.g6 2 rfl
      have f1 := blk_free hat'.g6
      have d2 := blk_cell hat'.g6 0 rfl
      have d3 := blk_cell hat'.g6 1 rfl
      have Hat' := Lib.hid hat'
      have Hv2 := Lib.hid hv2
      clear hx2 hat' hv2
      cases hb2 : B4
      · rw [hb2] at hq2
        obtain ⟨t2, N2, rfl⟩ := hq2
        have Hb2 := Lib.hid hb2
        clear hb2
        go_wp2_with fail
        have hst := Hat'.out.set 4 2 (.int .u64 x2) (.iface t2 (.pointer (some ⟨N2, 0, none⟩))) (C := #[.int .i64 x0, .int .i64 x1, .string w2, .slice none 0 0, .int .u64 x2]) (D := #[.iface t0 (.pointer (some ⟨N0, 0, none⟩)), .iface t1 (.pointer (some ⟨N1, 0, none⟩)), .iface t2 (.pointer (some ⟨N2, 0, none⟩))]) rfl rfl
        have hat3 : PeAt X x0 x1 w2 (.slice none 0 0) x2 (.iface t0 (.pointer (some ⟨N0, 0, none⟩))) (.iface t1 (.pointer (some ⟨N1, 0, none⟩))) (.iface t2 (.pointer (some ⟨N2, 0, none⟩))) ((V2.setCell ⟨X.heap.size, 4, none⟩ (.int .u64 x2)).setCell ⟨X.heap.size + 1, 2, none⟩ (.iface t2 (.pointer (some ⟨N2, 0, none⟩)))) := ⟨hst.1, hst.2.1, hst.2.2⟩
        generalize ((V2.setCell ⟨X.heap.size, 4, none⟩ (.int .u64 x2)).setCell ⟨X.heap.size + 1, 2, none⟩ (.iface t2 (.pointer (some ⟨N2, 0, none⟩)))) = W3 at *
        have Hat3 := Lib.hid hat3
        clear hst hat3 d0 d1 f0 f1 Hat' d2 d3
        have Hno := Lib.hid (show entP s.data.toList = none from ent_no0 Hl.out (HB.out.1.symm.trans Hb0.out))
        have gR := Ext.blk Hat3.out.ext HgR.out
        have r0 := blk_cell gR 0 rfl
        have r1 := blk_cell gR 1 rfl
        have r2 := blk_cell gR 2 rfl
        have r3 := blk_cell gR 3 rfl
        have r4 := blk_cell gR 4 rfl
        have fR := blk_free gR
        have i0 := fun W : World => show (Instr.index 88 (.agg #[.iface t0 (.pointer (some ⟨N0, 0, none⟩)), .iface t1 (.pointer (some ⟨N1, 0, none⟩)), .iface t2 (.pointer (some ⟨N2, 0, none⟩))]) (.int .i64 0)).run Tryd.prog W = .ok (.iface t0 (.pointer (some ⟨N0, 0, none⟩))) W from idx_err _ _ _ 0 _ rfl W
        have i1 := fun W : World => show (Instr.index 88 (.agg #[.iface t0 (.pointer (some ⟨N0, 0, none⟩)), .iface t1 (.pointer (some ⟨N1, 0, none⟩)), .iface t2 (.pointer (some ⟨N2, 0, none⟩))]) (.int .i64 1)).run Tryd.prog W = .ok (.iface t1 (.pointer (some ⟨N1, 0, none⟩))) W from idx_err _ _ _ 1 _ rfl W
        have i2 := fun W : World => show (Instr.index 88 (.agg #[.iface t0 (.pointer (some ⟨N0, 0, none⟩)), .iface t1 (.pointer (some ⟨N1, 0, none⟩)), .iface t2 (.pointer (some ⟨N2, 0, none⟩))]) (.int .i64 2)).run Tryd.prog W = .ok (.iface t2 (.pointer (some ⟨N2, 0, none⟩))) W from idx_err _ _ _ 2 _ rfl W
        clear gR
        go_loop [47] (fun i => ∃ k : Nat, k ≤ 0 ∧ i = .int .i64 k) (fun i => 3 - (intOf i).toNat)
        case atStart => exact ⟨0, by omega, rfl⟩
        case round =>
          obtain ⟨k, hk, rfl⟩ := hrel
          obtain rfl : k = 0 := by omega
          go_wp2_with fail
          refine bodyPost_ret (v := .tuple #[.agg #[.int .i64 0, .int .i64 0, .string ⟨#[]⟩, .slice none 0 0, .int .u64 0], .bool false]) (by simp [results, Tryd.results39, go_sem, *]) rfl (.inl ⟨Hno.out, ⟨_, _, _, _, _, _, _, rfl, ?_⟩⟩)
          have hx := HX.out.trans Hat3.out.ext
          repeat (first | with_reducible exact hx | with_reducible exact Keeps.refl _ _ | with_reducible refine Keeps.drew ?_ | with_reducible refine Keeps.drewN ?_ _ | with_reducible refine Keeps.alloc ?_ _ | with_reducible refine Keeps.setCell ?_ (by first | (intro h; simp at h; done) | (intro _; simp; done) | (intro _; simp; omega) | (intro h; simp at h; omega)) _)
      · rw [hb2] at hq2
        obtain rfl : er2 = .nilIface := hq2
        have Hb2 := Lib.hid hb2
        clear hb2
        go_wp2_with fail
        have hst := Hat'.out.set 4 2 (.int .u64 x2) (.nilIface) (C := #[.int .i64 x0, .int .i64 x1, .string w2, .slice none 0 0, .int .u64 x2]) (D := #[.iface t0 (.pointer (some ⟨N0, 0, none⟩)), .iface t1 (.pointer (some ⟨N1, 0, none⟩)), .nilIface]) rfl rfl
        have hat3 : PeAt X x0 x1 w2 (.slice none 0 0) x2 (.iface t0 (.pointer (some ⟨N0, 0, none⟩))) (.iface t1 (.pointer (some ⟨N1, 0, none⟩))) (.nilIface) ((V2.setCell ⟨X.heap.size, 4, none⟩ (.int .u64 x2)).setCell ⟨X.heap.size + 1, 2, none⟩ (.nilIface)) := ⟨hst.1, hst.2.1, hst.2.2⟩
        generalize ((V2.setCell ⟨X.heap.size, 4, none⟩ (.int .u64 x2)).setCell ⟨X.heap.size + 1, 2, none⟩ (.nilIface)) = W3 at *
        have Hat3 := Lib.hid hat3
        clear hst hat3 d0 d1 f0 f1 Hat' d2 d3
        have Hno := Lib.hid (show entP s.data.toList = none from ent_no0 Hl.out (HB.out.1.symm.trans Hb0.out))
        have gR := Ext.blk Hat3.out.ext HgR.out
        have r0 := blk_cell gR 0 rfl
        have r1 := blk_cell gR 1 rfl
        have r2 := blk_cell gR 2 rfl
        have r3 := blk_cell gR 3 rfl
        have r4 := blk_cell gR 4 rfl
        have fR := blk_free gR
        have i0 := fun W : World => show (Instr.index 88 (.agg #[.iface t0 (.pointer (some ⟨N0, 0, none⟩)), .iface t1 (.pointer (some ⟨N1, 0, none⟩)), .nilIface]) (.int .i64 0)).run Tryd.prog W = .ok (.iface t0 (.pointer (some ⟨N0, 0, none⟩))) W from idx_err _ _ _ 0 _ rfl W
        have i1 := fun W : World => show (Instr.index 88 (.agg #[.iface t0 (.pointer (some ⟨N0, 0, none⟩)), .iface t1 (.pointer (some ⟨N1, 0, none⟩)), .nilIface]) (.int .i64 1)).run Tryd.prog W = .ok (.iface t1 (.pointer (some ⟨N1, 0, none⟩))) W from idx_err _ _ _ 1 _ rfl W
        have i2 := fun W : World => show (Instr.index 88 (.agg #[.iface t0 (.pointer (some ⟨N0, 0, none⟩)), .iface t1 (.pointer (some ⟨N1, 0, none⟩)), .nilIface]) (.int .i64 2)).run Tryd.prog W = .ok (.nilIface) W from idx_err _ _ _ 2 _ rfl W
        clear gR
        go_loop [47] (fun i => ∃ k : Nat, k ≤ 0 ∧ i = .int .i64 k) (fun i => 3 - (intOf i).toNat)
        case atStart => exact ⟨0, by omega, rfl⟩
        case round =>
          obtain ⟨k, hk, rfl⟩ := hrel
          obtain rfl : k = 0 := by omega
          go_wp2_with fail
          refine bodyPost_ret (v := .tuple #[.agg #[.int .i64 0, .int .i64 0, .string ⟨#[]⟩, .slice none 0 0, .int .u64 0], .bool false]) (by simp [results, Tryd.results39, go_sem, *]) rfl (.inl ⟨Hno.out, ⟨_, _, _, _, _, _, _, rfl, ?_⟩⟩)
          have hx := HX.out.trans Hat3.out.ext
          repeat (first | with_reducible exact hx | with_reducible exact Keeps.refl _ _ | with_reducible refine Keeps.drew ?_ | with_reducible refine Keeps.drewN ?_ _ | with_reducible refine Keeps.alloc ?_ _ | with_reducible refine Keeps.setCell ?_ (by first | (intro h; simp at h; done) | (intro _; simp; done) | (intro _; simp; omega) | (intro h; simp at h; omega)) _)
    · rw [hb1] at hq1
      obtain rfl : er1 = .nilIface := hq1
      have Hb1 := Lib.hid hb1
      clear hb1
      go_wp2_with fail
      have hst := Hat'.out.set 1 1 (.int .i64 x1) (.nilIface) (C := #[.int .i64 x0, .int .i64 x1, .string w2, .slice none 0 0, .int .u64 0]) (D := #[.iface t0 (.pointer (some ⟨N0, 0, none⟩)), .nilIface, .nilIface]) rfl rfl
      have hat2 : PeAt X x0 x1 w2 (.slice none 0 0) 0 (.iface t0 (.pointer (some ⟨N0, 0, none⟩))) (.nilIface) (.nilIface) ((V1.setCell ⟨X.heap.size, 1, none⟩ (.int .i64 x1)).setCell ⟨X.heap.size + 1, 1, none⟩ (.nilIface)) := ⟨hst.1, hst.2.1, hst.2.2⟩
      generalize ((V1.setCell ⟨X.heap.size, 1, none⟩ (.int .i64 x1)).setCell ⟨X.heap.size + 1, 1, none⟩ (.nilIface)) = W2 at *
      have Hat2 := Lib.hid hat2
      clear hst hat2 d0 d1 f0 f1 Hat' tq
      refine (C4.out _ (Hv.out.er.ext (HX.out.trans Hat2.out.ext))).mono ?_
      rintro _ V2 ⟨x2, er2, rfl, hx2, hq2, hv2⟩
      have hat' := Hat2.out.go hx2
      have d0 := blk_cell hat'.g5 4 rfl
      have f0 := blk_free hat'.g5
      have d1 := blk_cell hat'.g6 2 rfl
      have f1 := blk_free hat'.g6
      have d2 := blk_cell hat'.g6 0 rfl
      have d3 := blk_cell hat'.g6 1 rfl
      have Hat' := Lib.hid hat'
      have Hv2 := Lib.hid hv2
      clear hx2 hat' hv2
      cases hb2 : B4
      · rw [hb2] at hq2
        obtain ⟨t2, N2, rfl⟩ := hq2
        have Hb2 := Lib.hid hb2
        clear hb2
        go_wp2_with fail
        have hst := Hat'.out.set 4 2 (.int .u64 x2) (.iface t2 (.pointer (some ⟨N2, 0, none⟩))) (C := #[.int .i64 x0, .int .i64 x1, .string w2, .slice none 0 0, .int .u64 x2]) (D := #[.iface t0 (.pointer (some ⟨N0, 0, none⟩)), .nilIface, .iface t2 (.pointer (some ⟨N2, 0, none⟩))]) rfl rfl
        have hat3 : PeAt X x0 x1 w2 (.slice none 0 0) x2 (.iface t0 (.pointer (some ⟨N0, 0, none⟩))) (.nilIface) (.iface t2 (.pointer (some ⟨N2, 0, none⟩))) ((V2.setCell ⟨X.heap.size, 4, none⟩ (.int .u64 x2)).setCell ⟨X.heap.size + 1, 2, none⟩ (.iface t2 (.pointer (some ⟨N2, 0, none⟩)))) := ⟨hst.1, hst.2.1, hst.2.2⟩
        generalize ((V2.setCell ⟨X.heap.size, 4, none⟩ (.int .u64 x2)).setCell ⟨X.heap.size + 1, 2, none⟩ (.iface t2 (.pointer (some ⟨N2, 0, none⟩)))) = W3 at *
        have Hat3 := Lib.hid hat3
        clear hst hat3 d0 d1 f0 f1 Hat' d2 d3
        have Hno := Lib.hid (show entP s.data.toList = none from ent_no0 Hl.out (HB.out.1.symm.trans Hb0.out))
        have gR := Ext.blk Hat3.out.ext HgR.out
        have r0 := blk_cell gR 0 rfl
        have r1 := blk_cell gR 1 rfl
        have r2 := blk_cell gR 2 rfl
        have r3 := blk_cell gR 3 rfl
        have r4 := blk_cell gR 4 rfl
        have fR := blk_free gR
        have i0 := fun W : World => show (Instr.index 88 (.agg #[.iface t0 (.pointer (some ⟨N0, 0, none⟩)), .nilIface, .iface t2 (.pointer (some ⟨N2, 0, none⟩))]) (.int .i64 0)).run Tryd.prog W = .ok (.iface t0 (.pointer (some ⟨N0, 0, none⟩))) W from idx_err _ _ _ 0 _ rfl W
        have i1 := fun W : World => show (Instr.index 88 (.agg #[.iface t0 (.pointer (some ⟨N0, 0, none⟩)), .nilIface, .iface t2 (.pointer (some ⟨N2, 0, none⟩))]) (.int .i64 1)).run Tryd.prog W = .ok (.nilIface) W from idx_err _ _ _ 1 _ rfl W
        have i2 := fun W : World => show (Instr.index 88 (.agg #[.iface t0 (.pointer (some ⟨N0, 0, none⟩)), .nilIface, .iface t2 (.pointer (some ⟨N2, 0, none⟩))]) (.int .i64 2)).run Tryd.prog W = .ok (.iface t2 (.pointer (some ⟨N2, 0, none⟩))) W from idx_err _ _ _ 2 _ rfl W
        clear gR
        go_loop [47] (fun i => ∃ k : Nat, k ≤ 0 ∧ i = .int .i64 k) (fun i => 3 - (intOf i).toNat)
        case atStart => exact ⟨0, by omega, rfl⟩
        case round =>
          obtain ⟨k, hk, rfl⟩ := hrel
          obtain rfl : k = 0 := by omega
          go_wp2_with fail
          refine bodyPost_ret (v := .tuple #[.agg #[.int .i64 0, .int .i64 0, .string ⟨#[]⟩, .slice none 0 0, .int .u64 0], .bool false]) (by simp [results, Tryd.results39, go_sem, *]) rfl (.inl ⟨Hno.out, ⟨_, _, _, _, _, _, _, rfl, ?_⟩⟩)
          have hx := HX.out.trans Hat3.out.ext
          repeat (first | with_reducible exact hx | with_reducible exact Keeps.refl _ _ | with_reducible refine Keeps.drew ?_ | with_reducible refine Keeps.drewN ?_ _ | with_reducible refine Keeps.alloc ?_ _ | with_reducible refine Keeps.setCell ?_ (by first | (intro h; simp at h; done) | (intro _; simp; done) | (intro _; simp; omega) | (intro h; simp at h; omega)) _)
      · rw [hb2] at hq2
        obtain rfl : er2 = .nilIface := hq2
        have Hb2 := Lib.hid hb2
        clear hb2
        go_wp2_with fail
        have hst := Hat'.out.set 4 2 (.int .u64 x2) (.nilIface) (C := #[.int .i64 x0, .int .i64 x1, .string w2, .slice none 0 0, .int .u64 x2]) (D := #[.iface t0 (.pointer (some ⟨N0, 0, none⟩)), .nilIface, .nilIface]) rfl rfl
        have hat3 : PeAt X x0 x1 w2 (.slice none 0 0) x2 (.iface t0 (.pointer (some ⟨N0, 0, none⟩))) (.nilIface) (.nilIface) ((V2.setCell ⟨X.heap.size, 4, none⟩ (.int .u64 x2)).setCell ⟨X.heap.size + 1, 2, none⟩ (.nilIface)) := ⟨hst.1, hst.2.1, hst.2.2⟩
        generalize ((V2.setCell ⟨X.heap.size, 4, none⟩ (.int .u64 x2)).setCell ⟨X.heap.size + 1, 2, none⟩ (.nilIface)) = W3 at *
        have Hat3 := Lib.hid hat3
        clear hst hat3 d0 d1 f0 f1 Hat' d2 d3
        have Hno := Lib.hid (show entP s.data.toList = none from ent_no0 Hl.out (HB.out.1.symm.trans Hb0.out))
        have gR := Ext.blk Hat3.out.ext HgR.out
        have r0 := blk_cell gR 0 rfl
        have r1 := blk_cell gR 1 rfl
        have r2 := blk_cell gR 2 rfl
        have r3 := blk_cell gR 3 rfl
        have r4 := blk_cell gR 4 rfl
        have fR := blk_free gR
        have i0 := fun W : World => show (Instr.index 88 (.agg #[.iface t0 (.pointer (some ⟨N0, 0, none⟩)), .nilIface, .nilIface]) (.int .i64 0)).run Tryd.prog W = .ok (.iface t0 (.pointer (some ⟨N0, 0, none⟩))) W from idx_err _ _ _ 0 _ rfl W
        have i1 := fun W : World => show (Instr.index 88 (.agg #[.iface t0 (.pointer (some ⟨N0, 0, none⟩)), .nilIface, .nilIface]) (.int .i64 1)).run Tryd.prog W = .ok (.nilIface) W from idx_err _ _ _ 1 _ rfl W
        have i2 := fun W : World => show (Instr.index 88 (.agg #[.iface t0 (.pointer (some ⟨N0, 0, none⟩)), .nilIface, .nilIface]) (.int .i64 2)).run Tryd.prog W = .ok (.nilIface) W from idx_err _ _ _ 2 _ rfl W
        clear gR
        go_loop [47] (fun i => ∃ k : Nat, k ≤ 0 ∧ i = .int .i64 k) (fun i => 3 - (intOf i).toNat)
        case atStart => exact ⟨0, by omega, rfl⟩
        case round =>
          obtain ⟨k, hk, rfl⟩ := hrel
          obtain rfl : k = 0 := by omega
          go_wp2_with fail
          refine bodyPost_ret (v := .tuple #[.agg #[.int .i64 0, .int .i64 0, .string ⟨#[]⟩, .slice none 0 0, .int .u64 0], .bool false]) (by simp [results, Tryd.results39, go_sem, *]) rfl (.inl ⟨Hno.out, ⟨_, _, _, _, _, _, _, rfl, ?_⟩⟩)
          have hx := HX.out.trans Hat3.out.ext
          repeat (first | with_reducible exact hx | with_reducible exact Keeps.refl _ _ | with_reducible refine Keeps.drew ?_ | with_reducible refine Keeps.drewN ?_ _ | with_reducible refine Keeps.alloc ?_ _ | with_reducible refine Keeps.setCell ?_ (by first | (intro h; simp at h; done) | (intro _; simp; done) | (intro _; simp; omega) | (intro h; simp at h; omega)) _)
  · rw [hb0] at hq0
    obtain rfl : er0 = .nilIface := hq0
    have Hb0 := Lib.hid hb0
    clear hb0
    go_wp2_with fail
    have hst := Hat'.out.set 0 0 (.int .i64 x0) (.nilIface) (C := #[.int .i64 x0, .int .i64 0, .string w2, .slice none 0 0, .int .u64 0]) (D := #[.nilIface, .nilIface, .nilIface]) rfl rfl
    have hat1 : PeAt X x0 0 w2 (.slice none 0 0) 0 (.nilIface) (.nilIface) (.nilIface) ((V0.setCell ⟨X.heap.size, 0, none⟩ (.int .i64 x0)).setCell ⟨X.heap.size + 1, 0, none⟩ (.nilIface)) := ⟨hst.1, hst.2.1, hst.2.2⟩
    generalize ((V0.setCell ⟨X.heap.size, 0, none⟩ (.int .i64 x0)).setCell ⟨X.heap.size + 1, 0, none⟩ (.nilIface)) = W1 at *
    have Hat1 := Lib.hid hat1
    clear hst hat1 d0 d1 f0 f1 Hat' tq
    refine (C1.out _ (Hv.out.er.ext (HX.out.trans Hat1.out.ext))).mono ?_
    rintro _ V1 ⟨x1, er1, rfl, hx1, hq1, hv1⟩
    have hat' := Hat1.out.go hx1
    have d0 := blk_cell hat'.g5 1 rfl
    have f0 := blk_free hat'.g5
    have d1 := blk_cell hat'.g6 1 rfl
    have f1 := blk_free hat'.g6
    have tq := (hat'.ext.cell (p := ⟨b, o + 4, none⟩) hb trivial).trans s4
    have Hat' := Lib.hid hat'
    have Hv1 := Lib.hid hv1
    clear hx1 hat' hv1
    cases hb1 : B1
    · rw [hb1] at hq1
      obtain ⟨t1, N1, rfl⟩ := hq1
      have Hb1 := Lib.hid hb1
      clear hb1
      go_wp2_with fail
      have hst := Hat'.out.set 1 1 (.int .i64 x1) (.iface t1 (.pointer (some ⟨N1, 0, none⟩))) (C := #[.int .i64 x0, .int .i64 x1, .string w2, .slice none 0 0, .int .u64 0]) (D := #[.nilIface, .iface t1 (.pointer (some ⟨N1, 0, none⟩)), .nilIface]) rfl rfl
      have hat2 : PeAt X x0 x1 w2 (.slice none 0 0) 0 (.nilIface) (.iface t1 (.pointer (some ⟨N1, 0, none⟩))) (.nilIface) ((V1.setCell ⟨X.heap.size, 1, none⟩ (.int .i64 x1)).setCell ⟨X.heap.size + 1, 1, none⟩ (.iface t1 (.pointer (some ⟨N1, 0, none⟩)))) := ⟨hst.1, hst.2.1, hst.2.2⟩
      generalize ((V1.setCell ⟨X.heap.size, 1, none⟩ (.int .i64 x1)).setCell ⟨X.heap.size + 1, 1, none⟩ (.iface t1 (.pointer (some ⟨N1, 0, none⟩)))) = W2 at *
      have Hat2 := Lib.hid hat2
      clear hst hat2 d0 d1 f0 f1 Hat' tq
      refine (C4.out _ (Hv.out.er.ext (HX.out.trans Hat2.out.ext))).mono ?_
      rintro _ V2 ⟨x2, er2, rfl, hx2, hq2, hv2⟩
      have hat' := Hat2.out.go hx2
      have d0 := blk_cell hat'.g5 4 rfl
      have f0 := blk_free hat'.g5
      have d1 := blk_cell hat'.g6 2 rfl
      have f1 := blk_free hat'.g6
      have d2 := blk_cell hat'.g6 0 rfl
      have d3 := blk_cell hat'.g6 1 rfl
      have Hat' := Lib.hid hat'
      have Hv2 := Lib.hid hv2
      clear hx2 hat' hv2
      cases hb2 : B4
      · rw [hb2] at hq2
        obtain ⟨t2, N2, rfl⟩ := hq2
        have Hb2 := Lib.hid hb2
        clear hb2
        go_wp2_with fail
        have hst := Hat'.out.set 4 2 (.int .u64 x2) (.iface t2 (.pointer (some ⟨N2, 0, none⟩))) (C := #[.int .i64 x0, .int .i64 x1, .string w2, .slice none 0 0, .int .u64 x2]) (D := #[.nilIface, .iface t1 (.pointer (some ⟨N1, 0, none⟩)), .iface t2 (.pointer (some ⟨N2, 0, none⟩))]) rfl rfl
        have hat3 : PeAt X x0 x1 w2 (.slice none 0 0) x2 (.nilIface) (.iface t1 (.pointer (some ⟨N1, 0, none⟩))) (.iface t2 (.pointer (some ⟨N2, 0, none⟩))) ((V2.setCell ⟨X.heap.size, 4, none⟩ (.int .u64 x2)).setCell ⟨X.heap.size + 1, 2, none⟩ (.iface t2 (.pointer (some ⟨N2, 0, none⟩)))) := ⟨hst.1, hst.2.1, hst.2.2⟩
        generalize ((V2.setCell ⟨X.heap.size, 4, none⟩ (.int .u64 x2)).setCell ⟨X.heap.size + 1, 2, none⟩ (.iface t2 (.pointer (some ⟨N2, 0, none⟩)))) = W3 at *
        have Hat3 := Lib.hid hat3
        clear hst hat3 d0 d1 f0 f1 Hat' d2 d3
        have Hno := Lib.hid (show entP s.data.toList = none from ent_no1 Hl.out (HB.out.2.1.symm.trans Hb1.out))
        have gR := Ext.blk Hat3.out.ext HgR.out
        have r0 := blk_cell gR 0 rfl
        have r1 := blk_cell gR 1 rfl
        have r2 := blk_cell gR 2 rfl
        have r3 := blk_cell gR 3 rfl
        have r4 := blk_cell gR 4 rfl
        have fR := blk_free gR
        have i0 := fun W : World => show (Instr.index 88 (.agg #[.nilIface, .iface t1 (.pointer (some ⟨N1, 0, none⟩)), .iface t2 (.pointer (some ⟨N2, 0, none⟩))]) (.int .i64 0)).run Tryd.prog W = .ok (.nilIface) W from idx_err _ _ _ 0 _ rfl W
        have i1 := fun W : World => show (Instr.index 88 (.agg #[.nilIface, .iface t1 (.pointer (some ⟨N1, 0, none⟩)), .iface t2 (.pointer (some ⟨N2, 0, none⟩))]) (.int .i64 1)).run Tryd.prog W = .ok (.iface t1 (.pointer (some ⟨N1, 0, none⟩))) W from idx_err _ _ _ 1 _ rfl W
        have i2 := fun W : World => show (Instr.index 88 (.agg #[.nilIface, .iface t1 (.pointer (some ⟨N1, 0, none⟩)), .iface t2 (.pointer (some ⟨N2, 0, none⟩))]) (.int .i64 2)).run Tryd.prog W = .ok (.iface t2 (.pointer (some ⟨N2, 0, none⟩))) W from idx_err _ _ _ 2 _ rfl W
        clear gR
        go_loop [47] (fun i => ∃ k : Nat, k ≤ 1 ∧ i = .int .i64 k) (fun i => 3 - (intOf i).toNat)
        case atStart => exact ⟨0, by omega, rfl⟩
        case round =>
          obtain ⟨k, hk, rfl⟩ := hrel
          by_cases hk0 : k = 0
          · subst hk0
            go_wp2_with fail
            go_round
            case rel => exact ⟨1, by omega, rfl⟩
            case measure => simp [intOf]
          obtain rfl : k = 1 := by omega
          go_wp2_with fail
          refine bodyPost_ret (v := .tuple #[.agg #[.int .i64 0, .int .i64 0, .string ⟨#[]⟩, .slice none 0 0, .int .u64 0], .bool false]) (by simp [results, Tryd.results39, go_sem, *]) rfl (.inl ⟨Hno.out, ⟨_, _, _, _, _, _, _, rfl, ?_⟩⟩)
          have hx := HX.out.trans Hat3.out.ext
          repeat (first | with_reducible exact hx | with_reducible exact Keeps.refl _ _ | with_reducible refine Keeps.drew ?_ | with_reducible refine Keeps.drewN ?_ _ | with_reducible refine Keeps.alloc ?_ _ | with_reducible refine Keeps.setCell ?_ (by first | (intro h; simp at h; done) | (intro _; simp; done) | (intro _; simp; omega) | (intro h; simp at h; omega)) _)
      · rw [hb2] at hq2
        obtain rfl : er2 = .nilIface := hq2
        have Hb2 := Lib.hid hb2
        clear hb2
        go_wp2_with fail
        have hst := Hat'.out.set 4 2 (.int .u64 x2) (.nilIface) (C := #[.int .i64 x0, .int .i64 x1, .string w2, .slice none 0 0, .int .u64 x2]) (D := #[.nilIface, .iface t1 (.pointer (some ⟨N1, 0, none⟩)), .nilIface]) rfl rfl
        have hat3 : PeAt X x0 x1 w2 (.slice none 0 0) x2 (.nilIface) (.iface t1 (.pointer (some ⟨N1, 0, none⟩))) (.nilIface) ((V2.setCell ⟨X.heap.size, 4, none⟩ (.int .u64 x2)).setCell ⟨X.heap.size + 1, 2, none⟩ (.nilIface)) := ⟨hst.1, hst.2.1, hst.2.2⟩
        generalize ((V2.setCell ⟨X.heap.size, 4, none⟩ (.int .u64 x2)).setCell ⟨X.heap.size + 1, 2, none⟩ (.nilIface)) = W3 at *
        have Hat3 := Lib.hid hat3
        clear hst hat3 d0 d1 f0 f1 Hat' d2 d3
        have Hno := Lib.hid (show entP s.data.toList = none from ent_no1 Hl.out (HB.out.2.1.symm.trans Hb1.out))
        have gR := Ext.blk Hat3.out.ext HgR.out
        have r0 := blk_cell gR 0 rfl
        have r1 := blk_cell gR 1 rfl
        have r2 := blk_cell gR 2 rfl
        have r3 := blk_cell gR 3 rfl
        have r4 := blk_cell gR 4 rfl
        have fR := blk_free gR
        have i0 := fun W : World => show (Instr.index 88 (.agg #[.nilIface, .iface t1 (.pointer (some ⟨N1, 0, none⟩)), .nilIface]) (.int .i64 0)).run Tryd.prog W = .ok (.nilIface) W from idx_err _ _ _ 0 _ rfl W
        have i1 := fun W : World => show (Instr.index 88 (.agg #[.nilIface, .iface t1 (.pointer (some ⟨N1, 0, none⟩)), .nilIface]) (.int .i64 1)).run Tryd.prog W = .ok (.iface t1 (.pointer (some ⟨N1, 0, none⟩))) W from idx_err _ _ _ 1 _ rfl W
        have i2 := fun W : World => show (Instr.index 88 (.agg #[.nilIface, .iface t1 (.pointer (some ⟨N1, 0, none⟩)), .nilIface]) (.int .i64 2)).run Tryd.prog W = .ok (.nilIface) W from idx_err _ _ _ 2 _ rfl W
        clear gR
        go_loop [47] (fun i => ∃ k : Nat, k ≤ 1 ∧ i = .int .i64 k) (fun i => 3 - (intOf i).toNat)
        case atStart => exact ⟨0, by omega, rfl⟩
        case round =>
          obtain ⟨k, hk, rfl⟩ := hrel
          by_cases hk0 : k = 0
          · subst hk0
            go_wp2_with fail
            go_round
            case rel => exact ⟨1, by omega, rfl⟩
            case measure => simp [intOf]
          obtain rfl : k = 1 := by omega
          go_wp2_with fail
          refine bodyPost_ret (v := .tuple #[.agg #[.int .i64 0, .int .i64 0, .string ⟨#[]⟩, .slice none 0 0, .int .u64 0], .bool false]) (by simp [results, Tryd.results39, go_sem, *]) rfl (.inl ⟨Hno.out, ⟨_, _, _, _, _, _, _, rfl, ?_⟩⟩)
          have hx := HX.out.trans Hat3.out.ext
          repeat (first | with_reducible exact hx | with_reducible exact Keeps.refl _ _ | with_reducible refine Keeps.drew ?_ | with_reducible refine Keeps.drewN ?_ _ | with_reducible refine Keeps.alloc ?_ _ | with_reducible refine Keeps.setCell ?_ (by first | (intro h; simp at h; done) | (intro _; simp; done) | (intro _; simp; omega) | (intro h; simp at h; omega)) _)
    · rw [hb1] at hq1
      obtain rfl : er1 = .nilIface := hq1
      have Hb1 := Lib.hid hb1
      clear hb1
      go_wp2_with fail
      have hst := Hat'.out.set 1 1 (.int .i64 x1) (.nilIface) (C := #[.int .i64 x0, .int .i64 x1, .string w2, .slice none 0 0, .int .u64 0]) (D := #[.nilIface, .nilIface, .nilIface]) rfl rfl
      have hat2 : PeAt X x0 x1 w2 (.slice none 0 0) 0 (.nilIface) (.nilIface) (.nilIface) ((V1.setCell ⟨X.heap.size, 1, none⟩ (.int .i64 x1)).setCell ⟨X.heap.size + 1, 1, none⟩ (.nilIface)) := ⟨hst.1, hst.2.1, hst.2.2⟩
      generalize ((V1.setCell ⟨X.heap.size, 1, none⟩ (.int .i64 x1)).setCell ⟨X.heap.size + 1, 1, none⟩ (.nilIface)) = W2 at *
      have Hat2 := Lib.hid hat2
      clear hst hat2 d0 d1 f0 f1 Hat' tq
      refine (C4.out _ (Hv.out.er.ext (HX.out.trans Hat2.out.ext))).mono ?_
      rintro _ V2 ⟨x2, er2, rfl, hx2, hq2, hv2⟩
      have hat' := Hat2.out.go hx2
      have d0 := blk_cell hat'.g5 4 rfl
      have f0 := blk_free hat'.g5
      have d1 := blk_cell hat'.g6 2 rfl
      have f1 := blk_free hat'.g6
      have d2 := blk_cell hat'.g6 0 rfl
      have d3 := blk_cell hat'.g6 1 rfl
      have Hat' := Lib.hid hat'
      have Hv2 := Lib.hid hv2
      clear hx2 hat' hv2
      cases hb2 : B4
      · rw [hb2] at hq2
        obtain ⟨t2, N2, rfl⟩ := hq2
        have Hb2 := Lib.hid hb2
        clear hb2
        go_wp2_with fail
        have hst := Hat'.out.set 4 2 (.int .u64 x2) (.iface t2 (.pointer (some ⟨N2, 0, none⟩))) (C := #[.int .i64 x0, .int .i64 x1, .string w2, .slice none 0 0, .int .u64 x2]) (D := #[.nilIface, .nilIface, .iface t2 (.pointer (some ⟨N2, 0, none⟩))]) rfl rfl
        have hat3 : PeAt X x0 x1 w2 (.slice none 0 0) x2 (.nilIface) (.nilIface) (.iface t2 (.pointer (some ⟨N2, 0, none⟩))) ((V2.setCell ⟨X.heap.size, 4, none⟩ (.int .u64 x2)).setCell ⟨X.heap.size + 1, 2, none⟩ (.iface t2 (.pointer (some ⟨N2, 0, none⟩)))) := ⟨hst.1, hst.2.1, hst.2.2⟩
        generalize ((V2.setCell ⟨X.heap.size, 4, none⟩ (.int .u64 x2)).setCell ⟨X.heap.size + 1, 2, none⟩ (.iface t2 (.pointer (some ⟨N2, 0, none⟩)))) = W3 at *
        have Hat3 := Lib.hid hat3
        clear hst hat3 d0 d1 f0 f1 Hat' d2 d3
        have Hno := Lib.hid (show entP s.data.toList = none from ent_no2 Hl.out (HB.out.2.2.symm.trans Hb2.out))
        have gR := Ext.blk Hat3.out.ext HgR.out
        have r0 := blk_cell gR 0 rfl
        have r1 := blk_cell gR 1 rfl
        have r2 := blk_cell gR 2 rfl
        have r3 := blk_cell gR 3 rfl
        have r4 := blk_cell gR 4 rfl
        have fR := blk_free gR
        have i0 := fun W : World => show (Instr.index 88 (.agg #[.nilIface, .nilIface, .iface t2 (.pointer (some ⟨N2, 0, none⟩))]) (.int .i64 0)).run Tryd.prog W = .ok (.nilIface) W from idx_err _ _ _ 0 _ rfl W
        have i1 := fun W : World => show (Instr.index 88 (.agg #[.nilIface, .nilIface, .iface t2 (.pointer (some ⟨N2, 0, none⟩))]) (.int .i64 1)).run Tryd.prog W = .ok (.nilIface) W from idx_err _ _ _ 1 _ rfl W
        have i2 := fun W : World => show (Instr.index 88 (.agg #[.nilIface, .nilIface, .iface t2 (.pointer (some ⟨N2, 0, none⟩))]) (.int .i64 2)).run Tryd.prog W = .ok (.iface t2 (.pointer (some ⟨N2, 0, none⟩))) W from idx_err _ _ _ 2 _ rfl W
        clear gR
        go_loop [47] (fun i => ∃ k : Nat, k ≤ 2 ∧ i = .int .i64 k) (fun i => 3 - (intOf i).toNat)
        case atStart => exact ⟨0, by omega, rfl⟩
        case round =>
          obtain ⟨k, hk, rfl⟩ := hrel
          by_cases hk0 : k = 0
          · subst hk0
            go_wp2_with fail
            go_round
            case rel => exact ⟨1, by omega, rfl⟩
            case measure => simp [intOf]
          by_cases hk1 : k = 1
          · subst hk1
            go_wp2_with fail
            go_round
            case rel => exact ⟨2, by omega, rfl⟩
            case measure => simp [intOf]
          obtain rfl : k = 2 := by omega
          go_wp2_with fail
          refine bodyPost_ret (v := .tuple #[.agg #[.int .i64 0, .int .i64 0, .string ⟨#[]⟩, .slice none 0 0, .int .u64 0], .bool false]) (by simp [results, Tryd.results39, go_sem, *]) rfl (.inl ⟨Hno.out, ⟨_, _, _, _, _, _, _, rfl, ?_⟩⟩)
          have hx := HX.out.trans Hat3.out.ext
          repeat (first | with_reducible exact hx | with_reducible exact Keeps.refl _ _ | with_reducible refine Keeps.drew ?_ | with_reducible refine Keeps.drewN ?_ _ | with_reducible refine Keeps.alloc ?_ _ | with_reducible refine Keeps.setCell ?_ (by first | (intro h; simp at h; done) | (intro _; simp; done) | (intro _; simp; omega) | (intro h; simp at h; omega)) _)
      · rw [hb2] at hq2
        obtain rfl : er2 = .nilIface := hq2
        have Hb2 := Lib.hid hb2
        clear hb2
        go_wp2_with fail
        have hst := Hat'.out.set 4 2 (.int .u64 x2) (.nilIface) (C := #[.int .i64 x0, .int .i64 x1, .string w2, .slice none 0 0, .int .u64 x2]) (D := #[.nilIface, .nilIface, .nilIface]) rfl rfl
        have hat3 : PeAt X x0 x1 w2 (.slice none 0 0) x2 (.nilIface) (.nilIface) (.nilIface) ((V2.setCell ⟨X.heap.size, 4, none⟩ (.int .u64 x2)).setCell ⟨X.heap.size + 1, 2, none⟩ (.nilIface)) := ⟨hst.1, hst.2.1, hst.2.2⟩
        generalize ((V2.setCell ⟨X.heap.size, 4, none⟩ (.int .u64 x2)).setCell ⟨X.heap.size + 1, 2, none⟩ (.nilIface)) = W3 at *
        have Hat3 := Lib.hid hat3
        clear hst hat3 d0 d1 f0 f1 Hat' d2 d3
        have t3 := (Hat3.out.ext.cell (p := ⟨b, o + 3, none⟩) hb trivial).trans s3
        have i0 := fun W : World => show (Instr.index 88 (.agg #[.nilIface, .nilIface, .nilIface]) (.int .i64 0)).run Tryd.prog W = .ok .nilIface W from idx_err _ _ _ 0 _ rfl W
        have i1 := fun W : World => show (Instr.index 88 (.agg #[.nilIface, .nilIface, .nilIface]) (.int .i64 1)).run Tryd.prog W = .ok .nilIface W from idx_err _ _ _ 1 _ rfl W
        have i2 := fun W : World => show (Instr.index 88 (.agg #[.nilIface, .nilIface, .nilIface]) (.int .i64 2)).run Tryd.prog W = .ok .nilIface W from idx_err _ _ _ 2 _ rfl W
        obtain ⟨u, hu2, hpu⟩ := Hv2.out Hb2.out
        have hp0 := Hv0.out Hb0.out
        have hp1 := Hv1.out Hb1.out
        have Hp0 := Lib.hid hp0
        have Hp1 := Lib.hid hp1
        have Hpu := Lib.hid hpu
        subst hu2
        clear hp0 hp1 hpu Hv0 Hv1 Hv2 C0 C1 C4
        go_loop [47] (fun i => ∃ k : Nat, k ≤ 3 ∧ i = .int .i64 k) (fun i => 3 - (intOf i).toNat)
        case atStart => exact ⟨0, by omega, rfl⟩
        case round =>
          obtain ⟨k, hk, rfl⟩ := hrel
          by_cases hk0 : k = 0
          · subst hk0
            go_wp2_with fail
            go_round
            case rel => exact ⟨1, by omega, rfl⟩
            case measure => simp [intOf]
          by_cases hk1 : k = 1
          · subst hk1
            go_wp2_with fail
            go_round
            case rel => exact ⟨2, by omega, rfl⟩
            case measure => simp [intOf]
          by_cases hk2 : k = 2
          · subst hk2
            go_wp2_with fail
            go_round
            case rel => exact ⟨3, by omega, rfl⟩
            case measure => simp [intOf]
          obtain rfl : k = 3 := by omega
          clear i0 i1 i2
          cases hd : (w3.data.toList == [46]) <;> have hd' : (w3.toList == [46]) = _ := (show (w3.toList == [46]) = (w3.data.toList == [46]) by rw [ByteArray.toList_eq]).trans hd
          · have hd2 : (w3.toList != [46]) = true := by rw [bne, hd']; rfl
            have Hip := Lib.hid (show itemsP w3.data.toList = (partsL 44 w3.data.toList).map bts by unfold itemsP; rw [hd]; rfl)
            have HS3 := Lib.hid (str_Split w3 44 W3 m3 (Hv.out.mx.ext (HX.out.trans Hat3.out.ext)))
            unfold bts at HS3
            go_wp2_with fail
            refine HS3.out.mono ?_
            rintro _ W4 ⟨A4, c4, rfl, hown4, hx4⟩
            have hat4 := Hat3.out.go hx4
            obtain ⟨items, hit⟩ : ∃ l, l = (partsL 44 w3.data.toList).map (fun l => (⟨l.toArray⟩ : ByteArray)) := ⟨_, rfl⟩
            rw [← hit] at hown4 ⊢
            have Hit := Lib.hid (show items = itemsP w3.data.toList by rw [hit, Hip.out]; rfl)
            have hc4 := hown4.cap
            have hfl : Own strR 9 (fun k => X.heap.size < k) W4 W3.heap.size (.slice A4 items.length c4) items.length items := hown4.flat strR_flat (fun _ _ => rfl)
            have hsl4 := hfl.sl (ok' := fun k => X.heap.size < k) (fun g h1 _ _ => Nat.lt_of_lt_of_le (Array.getElem?_eq_some_iff.1 Hat3.out.g5).1 h1) (fun _ _ h => h)
            have e5 := blk_cell hat4.g5 3 rfl
            have f5 := blk_free hat4.g5
            have Hat4 := Lib.hid hat4
            have Hsl4 := Lib.hid hsl4
            clear hat4 hsl4 hfl hown4 hx4 hit HS3 t3 hd hd' hd2
            go_upto_region 17 with fail
            have hkY : Keeps (fun k => k ≠ X.heap.size) W4 (W4.setCell ⟨X.heap.size, 3, none⟩ (.slice A4 items.length c4)) := (Keeps.refl _ _).setCell (fun _ h => h rfl) _
            have hgY : (W4.setCell ⟨X.heap.size, 3, none⟩ (.slice A4 items.length c4)).heap[X.heap.size]? = some (.cells #[.int .i64 x0, .int .i64 x1, .string w2, .slice A4 items.length c4, .int .u64 (u : Int)] 33) := blk_set Hat4.out.g5 3 _
            have hxY : Ext X (W4.setCell ⟨X.heap.size, 3, none⟩ (.slice A4 items.length c4)) := Keeps.setCell Hat4.out.ext (fun h => by simp at h) _
            have hslY : Sl strR (fun k => X.heap.size < k) (W4.setCell ⟨X.heap.size, 3, none⟩ (.slice A4 items.length c4)) A4 items.length items := Hsl4.out.keep (hkY.mono (fun k _ h => Nat.ne_of_gt h))
            generalize W4.setCell ⟨X.heap.size, 3, none⟩ (.slice A4 items.length c4) = Y at *
            have HgY := Lib.hid hgY
            have HslY := Lib.hid hslY
            have HXY := Lib.hid (HX.out.trans hxY)
            have HgRY := Lib.hid (Ext.blk hxY HgR.out)
            have hbox : ∀ (Z : World) (j : Nat), Z.heap[X.heap.size]? = some (.cells #[.int .i64 x0, .int .i64 x1, .string w2, .slice A4 items.length c4, .int .u64 (u : Int)] 33) → Z.cell? ⟨X.heap.size, j, none⟩ = (#[.int .i64 x0, .int .i64 x1, .string w2, .slice A4 items.length c4, .int .u64 (u : Int)] : Array Value)[j]? := fun Z j h => by simp [World.cell?, h]
            have hwX : w.heap.size ≠ X.heap.size := by omega
            have hsi : ∀ s ∈ items, s.size ≤ 999999 := by rw [Hit.out]; exact fun s hs => Nat.le_trans (itemsP_size hs) (by simpa using m3)
            have hil : items.length ≤ 1000000 := by
              rw [Hit.out]
              have h3 : w3.data.toList.length = w3.size := by simp
              have h4 := itemsP_len w3.data.toList
              omega
            have hw2 : w2.size ≤ 999999 := Hsz.out w2 (by simp)
            have Hsi := Lib.hid hsi
            have Hwi := Lib.hid (show bts w2.data.toList = w2 from bts_of w2)
            clear hgY hxY hslY hsi
            cases hm : mayE (⟨x0, x1, w2, items, u⟩ : Ent)
            · have CM := Lib.hid (fun (W : World) (h : Ext Y W) => show Calls Tryd.prog 28 #[.agg #[.int .i64 x0, .int .i64 x1, .string w2, .slice A4 items.length c4, .int .u64 (u : Int)]] W (fun r w' => r = .returned (.bool false) ∧ Ext W w') by have h9 : Calls Tryd.prog 28 #[.agg #[.int .i64 x0, .int .i64 x1, .string w2, .slice A4 items.length c4, .int .u64 (u : Int)]] W (fun r w' => r = .returned (.bool (mayE (⟨x0, x1, w2, items, u⟩ : Ent))) ∧ Ext W w') := aud_may (⟨x0, x1, w2, items, u⟩ : Ent) A4 c4 _ W (HslY.out.ext h) (by unfold maxLen; show items.length ≤ _; omega) (by unfold maxLen; show w2.size ≤ _; omega) (fun s hs => by unfold maxLen; have := Hsi.out s hs; omega); rw [hm] at h9; exact h9)
              have Hno := Lib.hid (show entP s.data.toList = none from ent_noM Hl.out Hp0.out Hp1.out Hpu.out (.inl (by rw [Hwi.out, ← Hit.out]; exact hm)))
              clear hm
              refine wp_region_noPanic ?_
              refine wp_region_held_drew (S := fun w' => w'.heap[X.heap.size]? = some (.cells #[.int .i64 x0, .int .i64 x1, .string w2, .slice A4 items.length c4, .int .u64 (u : Int)] 33)) (by kernel_rfl) ?_ (fun hHeld => ?_)
              · exact HgY.out
              refine wpAnyH_take (i := 0) (oi := { dst := some 63, op := Go.Op.load 33 (Go.Operand.tmp 5), type := 33, pos := "audit.go:182", after := #[], guard := none }) (v := ?_) rfl (by kernel_rfl) (by kernel_rfl) (by kernel_rfl) (fun _ _ _ h => h) (Or.inl ⟨by rfl, ?_⟩) (by assumption) ?_
              rotate_left
              · intro w hSw
                (try dsimp only at hSw)
                go_simp
                all_goals (with_reducible rfl)
              try simp only [Act.put, List.setIfInBounds_toArray, List.set_cons_zero, List.set_cons_succ]
              refine wpAnyH_take (i := 1) (oi := { dst := some 64, op := Go.Op.load 33 (Go.Operand.tmp 5), type := 33, pos := "audit.go:182", after := #[], guard := none }) (v := ?_) rfl (by kernel_rfl) (by kernel_rfl) (by kernel_rfl) (fun _ _ _ h => h) (Or.inl ⟨by rfl, ?_⟩) (by assumption) ?_
              rotate_left
              · intro w hSw
                (try dsimp only at hSw)
                go_simp
                all_goals (with_reducible rfl)
              try simp only [Act.put, List.setIfInBounds_toArray, List.set_cons_zero, List.set_cons_succ]
              refine wpAnyH_ready (rs := [2]) (by kernel_rfl) (by simp) ?_
              refine AllReadyH.cons (o := { dst := some 65, op := Go.Op.call { callee := Go.Callee.value (Go.Operand.func 28), args := #[Go.Operand.tmp 64], argTypes := #[33] }, type := 4, pos := "audit.go:182", after := #[{ on := 1, ground := Go.Ground.data }], guard := none }) rfl (fun K hK => ?_) AllReadyH.nil
              go_simp
              refine (CM.out _ (by repeat (first | assumption | with_reducible exact Keeps.refl _ _ | with_reducible refine Keeps.drew ?_ | with_reducible refine Keeps.alloc ?_ _))).mono ?_
              rintro _ w7 ⟨rfl, hx7⟩
              have hy7 : Ext Y w7 := Keeps.trans (by repeat (first | assumption | with_reducible exact Keeps.refl _ _ | with_reducible refine Keeps.drew ?_ | with_reducible refine Keeps.alloc ?_ _)) hx7
              have hg7 := hy7.blk HgY.out
              have hr7 := hy7.blk HgRY.out
              have r0 := blk_cell hr7 0 rfl
              have r1 := blk_cell hr7 1 rfl
              have r2 := blk_cell hr7 2 rfl
              have r3 := blk_cell hr7 3 rfl
              have r4 := blk_cell hr7 4 rfl
              have fR := blk_free hr7
              clear hx7
              refine hK.out _ _ ?_ (fun hHeld => ?_)
              · exact hg7
              clear hK K
              try simp only [Act.put, List.setIfInBounds_toArray, List.set_cons_zero, List.set_cons_succ]
              refine wpAnyH_take (i := 3) (oi := { dst := some 66, op := Go.Op.move (Go.Operand.tmp 65), type := 4, pos := "audit.go:182", after := #[{ on := 2, ground := Go.Ground.data }, { on := 2, ground := Go.Ground.chain }], guard := none }) (v := ?_) rfl (by kernel_rfl) (by kernel_rfl) (by kernel_rfl) (fun _ _ _ h => h) (Or.inl ⟨by rfl, ?_⟩) (by assumption) ?_
              rotate_left
              · intro w hSw
                (try dsimp only at hSw)
                go_simp
                all_goals (with_reducible rfl)
              try simp only [Act.put, List.setIfInBounds_toArray, List.set_cons_zero, List.set_cons_succ]
              refine wpAnyH_take (i := 4) (oi := { dst := some 67, op := Go.Op.load 33 (Go.Operand.tmp 5), type := 33, pos := "audit.go:182", after := #[{ on := 3, ground := Go.Ground.guard }], guard := some (3, true) }) (v := undef) rfl (by kernel_rfl) (by kernel_rfl) (by kernel_rfl) (fun _ _ _ h => h) (Or.inr ⟨by rfl, rfl⟩) (by assumption) ?_
              try simp only [Act.put, List.setIfInBounds_toArray, List.set_cons_zero, List.set_cons_succ]
              refine wpAnyH_take (i := 5) (oi := { dst := some 68, op := Go.Op.call { callee := Go.Callee.value (Go.Operand.func 33), args := #[Go.Operand.tmp 67], argTypes := #[33] }, type := 9, pos := "audit.go:182", after := #[{ on := 4, ground := Go.Ground.data }, { on := 3, ground := Go.Ground.chain }, { on := 3, ground := Go.Ground.guard }], guard := some (3, true) }) (v := undef) rfl (by kernel_rfl) (by kernel_rfl) (by kernel_rfl) (fun _ _ _ h => h) (Or.inr ⟨by rfl, rfl⟩) (by assumption) ?_
              try simp only [Act.put, List.setIfInBounds_toArray, List.set_cons_zero, List.set_cons_succ]
              refine wpAnyH_take (i := 6) (oi := { dst := some 69, op := Go.Op.move (Go.Operand.tmp 0), type := 9, pos := "audit.go:182", after := #[{ on := 3, ground := Go.Ground.guard }, { on := 9, ground := Go.Ground.gcOnly Go.Departure.lateStores }], guard := some (3, true) }) (v := undef) rfl (by kernel_rfl) (by kernel_rfl) (by kernel_rfl) (fun _ _ _ h => h) (Or.inr ⟨by rfl, rfl⟩) (by assumption) ?_
              try simp only [Act.put, List.setIfInBounds_toArray, List.set_cons_zero, List.set_cons_succ]
              refine wpAnyH_take (i := 7) (oi := { dst := some 70, op := Go.Op.binOp Go.BinOp.eql 9 (Go.Operand.tmp 68) (Go.Operand.tmp 69) 9, type := 4, pos := "audit.go:182", after := #[{ on := 5, ground := Go.Ground.data }, { on := 6, ground := Go.Ground.data }, { on := 3, ground := Go.Ground.guard }, { on := 9, ground := Go.Ground.gcOnly Go.Departure.lateStores }], guard := some (3, true) }) (v := undef) rfl (by kernel_rfl) (by kernel_rfl) (by kernel_rfl) (fun _ _ _ h => h) (Or.inr ⟨by rfl, rfl⟩) (by assumption) ?_
              try simp only [Act.put, List.setIfInBounds_toArray, List.set_cons_zero, List.set_cons_succ]
              refine wpAnyH_take (i := 8) (oi := { dst := some 71, op := Go.Op.pick (Go.Operand.tmp 66) (Go.Operand.tmp 70) (Go.Operand.const (Go.Value.bool false)), type := 4, pos := "audit.go:182", after := #[{ on := 3, ground := Go.Ground.data }, { on := 7, ground := Go.Ground.data }, { on := 9, ground := Go.Ground.gcOnly Go.Departure.lateStores }], guard := none }) (v := ?_) rfl (by kernel_rfl) (by kernel_rfl) (by kernel_rfl) (fun _ _ _ h => h) (Or.inl ⟨by rfl, ?_⟩) (by assumption) ?_
              rotate_left
              · intro w hSw
                (try dsimp only at hSw)
                go_simp
                all_goals (with_reducible rfl)
              try simp only [Act.put, List.setIfInBounds_toArray, List.set_cons_zero, List.set_cons_succ]
              refine wpAnyH_ready (rs := [9]) (by kernel_rfl) (by simp) ?_
              refine AllReadyH.cons (o := { dst := none, op := Go.Op.store 33 (Go.Operand.tmp 2) (Go.Operand.tmp 63), type := 0, pos := "audit.go:182", after := #[{ on := 0, ground := Go.Ground.data }, { on := 5, ground := Go.Ground.chain }, { on := 0, ground := Go.Ground.phase }, { on := 1, ground := Go.Ground.textOnly Go.Departure.lateStores }, { on := 2, ground := Go.Ground.textOnly Go.Departure.lateStoresUnsure }, { on := 3, ground := Go.Ground.textOnly Go.Departure.lateStores }, { on := 4, ground := Go.Ground.textOnly Go.Departure.lateStores }, { on := 5, ground := Go.Ground.textOnly Go.Departure.lateStoresUnsure }, { on := 6, ground := Go.Ground.textOnly Go.Departure.lateStores }, { on := 7, ground := Go.Ground.textOnly Go.Departure.lateStores }, { on := 8, ground := Go.Ground.textOnly Go.Departure.lateStores }], guard := none }) rfl (fun K hK => ?_) AllReadyH.nil
              go_simp
              refine hK.out _ _ ?_ (fun hHeld => ?_)
              · (repeat (with_reducible refine blk_far ?_ (by simp; omega) _)); exact hg7
              clear hK K
              try simp only [Act.put, List.setIfInBounds_toArray, List.set_cons_zero, List.set_cons_succ]
              refine wpAnyH_take (i := 10) (oi := { dst := some 3, op := Go.Op.assign (Go.Operand.tmp 71), type := 4, pos := "audit.go:182", after := #[{ on := 8, ground := Go.Ground.data }, { on := 9, ground := Go.Ground.chain }, { on := 0, ground := Go.Ground.phase }, { on := 1, ground := Go.Ground.phase }, { on := 2, ground := Go.Ground.phase }, { on := 3, ground := Go.Ground.phase }, { on := 4, ground := Go.Ground.phase }, { on := 5, ground := Go.Ground.phase }, { on := 6, ground := Go.Ground.phase }, { on := 7, ground := Go.Ground.phase }, { on := 8, ground := Go.Ground.phase }, { on := 9, ground := Go.Ground.phase }], guard := none }) (v := ?_) rfl (by kernel_rfl) (by kernel_rfl) (by kernel_rfl) (fun _ _ _ h => h) (Or.inl ⟨by rfl, ?_⟩) (by assumption) ?_
              rotate_left
              · intro w hSw
                (try dsimp only at hSw)
                go_simp
                all_goals (with_reducible rfl)
              try simp only [Act.put, List.setIfInBounds_toArray, List.set_cons_zero, List.set_cons_succ]
              refine wpAnyH_done (by kernel_rfl) ?_ _
              refine NoPanic.normal ?_
              · skip
                go_wp2_with fail
                refine bodyPost_ret (v := .tuple #[.agg #[.int .i64 x0, .int .i64 x1, .string w2, .slice A4 items.length c4, .int .u64 (u : Int)], .bool false]) (by simp [results, Tryd.results39, go_sem, *]) rfl (.inl ⟨Hno.out, ⟨_, _, _, _, _, _, _, rfl, ?_⟩⟩)
                have hx := HXY.out.trans hy7
                repeat (first | with_reducible exact hx | with_reducible exact Keeps.refl _ _ | with_reducible refine Keeps.drew ?_ | with_reducible refine Keeps.drewN ?_ _ | with_reducible refine Keeps.alloc ?_ _ | with_reducible refine Keeps.setCell ?_ (by first | (intro h; simp at h; done) | (intro _; simp; done) | (intro _; simp; omega) | (intro h; simp at h; omega)) _)
            · have CM := Lib.hid (fun (W : World) (h : Ext Y W) => show Calls Tryd.prog 28 #[.agg #[.int .i64 x0, .int .i64 x1, .string w2, .slice A4 items.length c4, .int .u64 (u : Int)]] W (fun r w' => r = .returned (.bool true) ∧ Ext W w') by have h9 : Calls Tryd.prog 28 #[.agg #[.int .i64 x0, .int .i64 x1, .string w2, .slice A4 items.length c4, .int .u64 (u : Int)]] W (fun r w' => r = .returned (.bool (mayE (⟨x0, x1, w2, items, u⟩ : Ent))) ∧ Ext W w') := aud_may (⟨x0, x1, w2, items, u⟩ : Ent) A4 c4 _ W (HslY.out.ext h) (by unfold maxLen; show items.length ≤ _; omega) (by unfold maxLen; show w2.size ≤ _; omega) (fun s hs => by unfold maxLen; have := Hsi.out s hs; omega); rw [hm] at h9; exact h9)
              obtain ⟨p1, p2, p3, p4, p5, p6, p7⟩ := mayE_parts' hm
              have hpu := parseU_lt Hpu.out
              have hin : ∀ s ∈ items, s.size ≤ 1000 := fun s hs => by have := nameB_size (List.all_eq_true.1 p7 s hs); omega
              obtain ⟨Ln, hLn⟩ : ∃ Ln : ByteArray, Ln = ⟨(lineL (⟨x0, x1, w2, items, u⟩ : Ent)).toArray⟩ := ⟨_, rfl⟩
              have CL := Lib.hid (fun (W : World) (h : Ext Y W) => show Calls Tryd.prog 33 #[.agg #[.int .i64 x0, .int .i64 x1, .string w2, .slice A4 items.length c4, .int .u64 (u : Int)]] W (fun r w' => r = .returned (.string Ln) ∧ Ext W w') by have h9 : Calls Tryd.prog 33 #[.agg #[.int .i64 x0, .int .i64 x1, .string w2, .slice A4 items.length c4, .int .u64 (u : Int)]] W (fun r w' => r = .returned (.string ⟨(lineL (⟨x0, x1, w2, items, u⟩ : Ent)).toArray⟩) ∧ Ext W w') := aud_line (⟨x0, x1, w2, items, u⟩ : Ent) A4 c4 _ W (HslY.out.ext h) hc4 p6 (by have := nameB_size p5; show w2.size ≤ 1000; have h8 : w2.size ≤ 24 := this; omega) hin p1 (by have h8 : x0 ≤ 1048576 := p2; show x0 ≤ _; omega) p3 p4 (by show (0 : Int) ≤ (u : Int); omega) (by show (u : Int) < _; omega) (Hv.out.pow.ext (HXY.out.trans h)); rw [← hLn] at h9; exact h9)
              cases hq : (Ln.toList == s.toList)
              · have Hno := Lib.hid (show entP s.data.toList = none from ent_noM Hl.out Hp0.out Hp1.out Hpu.out (.inr (by rw [Hwi.out, ← Hit.out]; intro h9; rw [hLn, ByteArray.toList_eq, ByteArray.toList_eq, beq_eq_false_iff_ne] at hq; exact hq (by simpa using h9))))
                clear hm p1 p2 p3 p4 p5 p6 p7 hpu hin hLn
                refine wp_region_noPanic ?_
                refine wp_region_held_drew (S := fun w' => w'.heap[X.heap.size]? = some (.cells #[.int .i64 x0, .int .i64 x1, .string w2, .slice A4 items.length c4, .int .u64 (u : Int)] 33)) (by kernel_rfl) ?_ (fun hHeld => ?_)
                · exact HgY.out
                refine wpAnyH_take (i := 0) (oi := { dst := some 63, op := Go.Op.load 33 (Go.Operand.tmp 5), type := 33, pos := "audit.go:182", after := #[], guard := none }) (v := ?_) rfl (by kernel_rfl) (by kernel_rfl) (by kernel_rfl) (fun _ _ _ h => h) (Or.inl ⟨by rfl, ?_⟩) (by assumption) ?_
                rotate_left
                · intro w hSw
                  (try dsimp only at hSw)
                  go_simp
                  all_goals (with_reducible rfl)
                try simp only [Act.put, List.setIfInBounds_toArray, List.set_cons_zero, List.set_cons_succ]
                refine wpAnyH_take (i := 1) (oi := { dst := some 64, op := Go.Op.load 33 (Go.Operand.tmp 5), type := 33, pos := "audit.go:182", after := #[], guard := none }) (v := ?_) rfl (by kernel_rfl) (by kernel_rfl) (by kernel_rfl) (fun _ _ _ h => h) (Or.inl ⟨by rfl, ?_⟩) (by assumption) ?_
                rotate_left
                · intro w hSw
                  (try dsimp only at hSw)
                  go_simp
                  all_goals (with_reducible rfl)
                try simp only [Act.put, List.setIfInBounds_toArray, List.set_cons_zero, List.set_cons_succ]
                refine wpAnyH_ready (rs := [2]) (by kernel_rfl) (by simp) ?_
                refine AllReadyH.cons (o := { dst := some 65, op := Go.Op.call { callee := Go.Callee.value (Go.Operand.func 28), args := #[Go.Operand.tmp 64], argTypes := #[33] }, type := 4, pos := "audit.go:182", after := #[{ on := 1, ground := Go.Ground.data }], guard := none }) rfl (fun K hK => ?_) AllReadyH.nil
                go_simp
                refine (CM.out _ (by repeat (first | assumption | with_reducible exact Keeps.refl _ _ | with_reducible refine Keeps.drew ?_ | with_reducible refine Keeps.alloc ?_ _))).mono ?_
                rintro _ w7 ⟨rfl, hx7⟩
                have hy7 : Ext Y w7 := Keeps.trans (by repeat (first | assumption | with_reducible exact Keeps.refl _ _ | with_reducible refine Keeps.drew ?_ | with_reducible refine Keeps.alloc ?_ _)) hx7
                have hg7 := hy7.blk HgY.out
                have hr7 := hy7.blk HgRY.out
                have r0 := blk_cell hr7 0 rfl
                have r1 := blk_cell hr7 1 rfl
                have r2 := blk_cell hr7 2 rfl
                have r3 := blk_cell hr7 3 rfl
                have r4 := blk_cell hr7 4 rfl
                have fR := blk_free hr7
                clear hx7
                refine hK.out _ _ ?_ (fun hHeld => ?_)
                · exact hg7
                clear hK K
                try simp only [Act.put, List.setIfInBounds_toArray, List.set_cons_zero, List.set_cons_succ]
                refine wpAnyH_take (i := 3) (oi := { dst := some 66, op := Go.Op.move (Go.Operand.tmp 65), type := 4, pos := "audit.go:182", after := #[{ on := 2, ground := Go.Ground.data }, { on := 2, ground := Go.Ground.chain }], guard := none }) (v := ?_) rfl (by kernel_rfl) (by kernel_rfl) (by kernel_rfl) (fun _ _ _ h => h) (Or.inl ⟨by rfl, ?_⟩) (by assumption) ?_
                rotate_left
                · intro w hSw
                  (try dsimp only at hSw)
                  go_simp
                  all_goals (with_reducible rfl)
                try simp only [Act.put, List.setIfInBounds_toArray, List.set_cons_zero, List.set_cons_succ]
                refine wpAnyH_take (i := 4) (oi := { dst := some 67, op := Go.Op.load 33 (Go.Operand.tmp 5), type := 33, pos := "audit.go:182", after := #[{ on := 3, ground := Go.Ground.guard }], guard := some (3, true) }) (v := ?_) rfl (by kernel_rfl) (by kernel_rfl) (by kernel_rfl) (fun _ _ _ h => h) (Or.inl ⟨by rfl, ?_⟩) (by assumption) ?_
                rotate_left
                · intro w hSw
                  (try dsimp only at hSw)
                  go_simp
                  all_goals (with_reducible rfl)
                try simp only [Act.put, List.setIfInBounds_toArray, List.set_cons_zero, List.set_cons_succ]
                refine wpAnyH_take (i := 6) (oi := { dst := some 69, op := Go.Op.move (Go.Operand.tmp 0), type := 9, pos := "audit.go:182", after := #[{ on := 3, ground := Go.Ground.guard }, { on := 9, ground := Go.Ground.gcOnly Go.Departure.lateStores }], guard := some (3, true) }) (v := ?_) rfl (by kernel_rfl) (by kernel_rfl) (by kernel_rfl) (fun _ _ _ h => h) (Or.inl ⟨by rfl, ?_⟩) (by assumption) ?_
                rotate_left
                · intro w hSw
                  (try dsimp only at hSw)
                  go_simp
                  all_goals (with_reducible rfl)
                try simp only [Act.put, List.setIfInBounds_toArray, List.set_cons_zero, List.set_cons_succ]
                refine wpAnyH_ready (rs := [5]) (by kernel_rfl) (by simp) ?_
                refine AllReadyH.cons (o := { dst := some 68, op := Go.Op.call { callee := Go.Callee.value (Go.Operand.func 33), args := #[Go.Operand.tmp 67], argTypes := #[33] }, type := 9, pos := "audit.go:182", after := #[{ on := 4, ground := Go.Ground.data }, { on := 3, ground := Go.Ground.chain }, { on := 3, ground := Go.Ground.guard }], guard := some (3, true) }) rfl (fun K hK => ?_) AllReadyH.nil
                go_simp
                refine (CL.out _ (by repeat (first | assumption | with_reducible exact Keeps.refl _ _ | with_reducible refine Keeps.drew ?_ | with_reducible refine Keeps.alloc ?_ _))).mono ?_
                rintro _ w8 ⟨rfl, hx8⟩
                have hy8 : Ext Y w8 := Keeps.trans (by repeat (first | assumption | with_reducible exact Keeps.refl _ _ | with_reducible refine Keeps.drew ?_ | with_reducible refine Keeps.alloc ?_ _)) hx8
                clear r0 r1 r2 r3 r4 fR
                have hg8 := hy8.blk HgY.out
                have hr8 := hy8.blk HgRY.out
                have r0 := blk_cell hr8 0 rfl
                have r1 := blk_cell hr8 1 rfl
                have r2 := blk_cell hr8 2 rfl
                have r3 := blk_cell hr8 3 rfl
                have r4 := blk_cell hr8 4 rfl
                have fR := blk_free hr8
                clear hx8
                refine hK.out _ _ ?_ (fun hHeld => ?_)
                · exact hg8
                clear hK K
                try simp only [Act.put, List.setIfInBounds_toArray, List.set_cons_zero, List.set_cons_succ]
                refine wpAnyH_take (i := 7) (oi := { dst := some 70, op := Go.Op.binOp Go.BinOp.eql 9 (Go.Operand.tmp 68) (Go.Operand.tmp 69) 9, type := 4, pos := "audit.go:182", after := #[{ on := 5, ground := Go.Ground.data }, { on := 6, ground := Go.Ground.data }, { on := 3, ground := Go.Ground.guard }, { on := 9, ground := Go.Ground.gcOnly Go.Departure.lateStores }], guard := some (3, true) }) (v := ?_) rfl (by kernel_rfl) (by kernel_rfl) (by kernel_rfl) (fun _ _ _ h => h) (Or.inl ⟨by rfl, ?_⟩) (by assumption) ?_
                rotate_left
                · intro w hSw
                  (try dsimp only at hSw)
                  go_simp
                  all_goals (with_reducible rfl)
                try simp only [Act.put, List.setIfInBounds_toArray, List.set_cons_zero, List.set_cons_succ]
                refine wpAnyH_take (i := 8) (oi := { dst := some 71, op := Go.Op.pick (Go.Operand.tmp 66) (Go.Operand.tmp 70) (Go.Operand.const (Go.Value.bool false)), type := 4, pos := "audit.go:182", after := #[{ on := 3, ground := Go.Ground.data }, { on := 7, ground := Go.Ground.data }, { on := 9, ground := Go.Ground.gcOnly Go.Departure.lateStores }], guard := none }) (v := ?_) rfl (by kernel_rfl) (by kernel_rfl) (by kernel_rfl) (fun _ _ _ h => h) (Or.inl ⟨by rfl, ?_⟩) (by assumption) ?_
                rotate_left
                · intro w hSw
                  (try dsimp only at hSw)
                  go_simp
                  all_goals (with_reducible rfl)
                try simp only [Act.put, List.setIfInBounds_toArray, List.set_cons_zero, List.set_cons_succ]
                refine wpAnyH_ready (rs := [9]) (by kernel_rfl) (by simp) ?_
                refine AllReadyH.cons (o := { dst := none, op := Go.Op.store 33 (Go.Operand.tmp 2) (Go.Operand.tmp 63), type := 0, pos := "audit.go:182", after := #[{ on := 0, ground := Go.Ground.data }, { on := 5, ground := Go.Ground.chain }, { on := 0, ground := Go.Ground.phase }, { on := 1, ground := Go.Ground.textOnly Go.Departure.lateStores }, { on := 2, ground := Go.Ground.textOnly Go.Departure.lateStoresUnsure }, { on := 3, ground := Go.Ground.textOnly Go.Departure.lateStores }, { on := 4, ground := Go.Ground.textOnly Go.Departure.lateStores }, { on := 5, ground := Go.Ground.textOnly Go.Departure.lateStoresUnsure }, { on := 6, ground := Go.Ground.textOnly Go.Departure.lateStores }, { on := 7, ground := Go.Ground.textOnly Go.Departure.lateStores }, { on := 8, ground := Go.Ground.textOnly Go.Departure.lateStores }], guard := none }) rfl (fun K hK => ?_) AllReadyH.nil
                go_simp
                refine hK.out _ _ ?_ (fun hHeld => ?_)
                · (repeat (with_reducible refine blk_far ?_ (by simp; omega) _)); exact hg8
                clear hK K
                try simp only [Act.put, List.setIfInBounds_toArray, List.set_cons_zero, List.set_cons_succ]
                refine wpAnyH_take (i := 10) (oi := { dst := some 3, op := Go.Op.assign (Go.Operand.tmp 71), type := 4, pos := "audit.go:182", after := #[{ on := 8, ground := Go.Ground.data }, { on := 9, ground := Go.Ground.chain }, { on := 0, ground := Go.Ground.phase }, { on := 1, ground := Go.Ground.phase }, { on := 2, ground := Go.Ground.phase }, { on := 3, ground := Go.Ground.phase }, { on := 4, ground := Go.Ground.phase }, { on := 5, ground := Go.Ground.phase }, { on := 6, ground := Go.Ground.phase }, { on := 7, ground := Go.Ground.phase }, { on := 8, ground := Go.Ground.phase }, { on := 9, ground := Go.Ground.phase }], guard := none }) (v := ?_) rfl (by kernel_rfl) (by kernel_rfl) (by kernel_rfl) (fun _ _ _ h => h) (Or.inl ⟨by rfl, ?_⟩) (by assumption) ?_
                rotate_left
                · intro w hSw
                  (try dsimp only at hSw)
                  go_simp
                  all_goals (with_reducible rfl)
                try simp only [Act.put, List.setIfInBounds_toArray, List.set_cons_zero, List.set_cons_succ]
                refine wpAnyH_done (by kernel_rfl) ?_ _
                refine NoPanic.normal ?_
                · skip
                  go_wp2_with fail
                  refine bodyPost_ret (v := .tuple #[.agg #[.int .i64 x0, .int .i64 x1, .string w2, .slice A4 items.length c4, .int .u64 (u : Int)], .bool false]) (by simp [results, Tryd.results39, go_sem, *]) rfl (.inl ⟨Hno.out, ⟨_, _, _, _, _, _, _, rfl, ?_⟩⟩)
                  have hx := HXY.out.trans hy8
                  repeat (first | with_reducible exact hx | with_reducible exact Keeps.refl _ _ | with_reducible refine Keeps.drew ?_ | with_reducible refine Keeps.drewN ?_ _ | with_reducible refine Keeps.alloc ?_ _ | with_reducible refine Keeps.setCell ?_ (by first | (intro h; simp at h; done) | (intro _; simp; done) | (intro _; simp; omega) | (intro h; simp at h; omega)) _)
              · have Hyes := Lib.hid (show entP s.data.toList = some (⟨x0, x1, w2, items, u⟩ : Ent) from by have h8 := entP_forth Hl.out Hp0.out Hp1.out Hpu.out (by rw [Hwi.out, ← Hit.out]; exact hm) (by rw [Hwi.out, ← Hit.out]; rw [hLn, ByteArray.toList_eq, ByteArray.toList_eq, beq_iff_eq] at hq; simpa using hq); rw [Hwi.out, ← Hit.out] at h8; exact h8)
                clear hm p1 p2 p3 p4 p5 p6 p7 hpu hin hLn
                refine wp_region_noPanic ?_
                refine wp_region_held_drew (S := fun w' => w'.heap[X.heap.size]? = some (.cells #[.int .i64 x0, .int .i64 x1, .string w2, .slice A4 items.length c4, .int .u64 (u : Int)] 33)) (by kernel_rfl) ?_ (fun hHeld => ?_)
                · exact HgY.out
                refine wpAnyH_take (i := 0) (oi := { dst := some 63, op := Go.Op.load 33 (Go.Operand.tmp 5), type := 33, pos := "audit.go:182", after := #[], guard := none }) (v := ?_) rfl (by kernel_rfl) (by kernel_rfl) (by kernel_rfl) (fun _ _ _ h => h) (Or.inl ⟨by rfl, ?_⟩) (by assumption) ?_
                rotate_left
                · intro w hSw
                  (try dsimp only at hSw)
                  go_simp
                  all_goals (with_reducible rfl)
                try simp only [Act.put, List.setIfInBounds_toArray, List.set_cons_zero, List.set_cons_succ]
                refine wpAnyH_take (i := 1) (oi := { dst := some 64, op := Go.Op.load 33 (Go.Operand.tmp 5), type := 33, pos := "audit.go:182", after := #[], guard := none }) (v := ?_) rfl (by kernel_rfl) (by kernel_rfl) (by kernel_rfl) (fun _ _ _ h => h) (Or.inl ⟨by rfl, ?_⟩) (by assumption) ?_
                rotate_left
                · intro w hSw
                  (try dsimp only at hSw)
                  go_simp
                  all_goals (with_reducible rfl)
                try simp only [Act.put, List.setIfInBounds_toArray, List.set_cons_zero, List.set_cons_succ]
                refine wpAnyH_ready (rs := [2]) (by kernel_rfl) (by simp) ?_
                refine AllReadyH.cons (o := { dst := some 65, op := Go.Op.call { callee := Go.Callee.value (Go.Operand.func 28), args := #[Go.Operand.tmp 64], argTypes := #[33] }, type := 4, pos := "audit.go:182", after := #[{ on := 1, ground := Go.Ground.data }], guard := none }) rfl (fun K hK => ?_) AllReadyH.nil
                go_simp
                refine (CM.out _ (by repeat (first | assumption | with_reducible exact Keeps.refl _ _ | with_reducible refine Keeps.drew ?_ | with_reducible refine Keeps.alloc ?_ _))).mono ?_
                rintro _ w7 ⟨rfl, hx7⟩
                have hy7 : Ext Y w7 := Keeps.trans (by repeat (first | assumption | with_reducible exact Keeps.refl _ _ | with_reducible refine Keeps.drew ?_ | with_reducible refine Keeps.alloc ?_ _)) hx7
                have hg7 := hy7.blk HgY.out
                have hr7 := hy7.blk HgRY.out
                have r0 := blk_cell hr7 0 rfl
                have r1 := blk_cell hr7 1 rfl
                have r2 := blk_cell hr7 2 rfl
                have r3 := blk_cell hr7 3 rfl
                have r4 := blk_cell hr7 4 rfl
                have fR := blk_free hr7
                clear hx7
                refine hK.out _ _ ?_ (fun hHeld => ?_)
                · exact hg7
                clear hK K
                try simp only [Act.put, List.setIfInBounds_toArray, List.set_cons_zero, List.set_cons_succ]
                refine wpAnyH_take (i := 3) (oi := { dst := some 66, op := Go.Op.move (Go.Operand.tmp 65), type := 4, pos := "audit.go:182", after := #[{ on := 2, ground := Go.Ground.data }, { on := 2, ground := Go.Ground.chain }], guard := none }) (v := ?_) rfl (by kernel_rfl) (by kernel_rfl) (by kernel_rfl) (fun _ _ _ h => h) (Or.inl ⟨by rfl, ?_⟩) (by assumption) ?_
                rotate_left
                · intro w hSw
                  (try dsimp only at hSw)
                  go_simp
                  all_goals (with_reducible rfl)
                try simp only [Act.put, List.setIfInBounds_toArray, List.set_cons_zero, List.set_cons_succ]
                refine wpAnyH_take (i := 4) (oi := { dst := some 67, op := Go.Op.load 33 (Go.Operand.tmp 5), type := 33, pos := "audit.go:182", after := #[{ on := 3, ground := Go.Ground.guard }], guard := some (3, true) }) (v := ?_) rfl (by kernel_rfl) (by kernel_rfl) (by kernel_rfl) (fun _ _ _ h => h) (Or.inl ⟨by rfl, ?_⟩) (by assumption) ?_
                rotate_left
                · intro w hSw
                  (try dsimp only at hSw)
                  go_simp
                  all_goals (with_reducible rfl)
                try simp only [Act.put, List.setIfInBounds_toArray, List.set_cons_zero, List.set_cons_succ]
                refine wpAnyH_take (i := 6) (oi := { dst := some 69, op := Go.Op.move (Go.Operand.tmp 0), type := 9, pos := "audit.go:182", after := #[{ on := 3, ground := Go.Ground.guard }, { on := 9, ground := Go.Ground.gcOnly Go.Departure.lateStores }], guard := some (3, true) }) (v := ?_) rfl (by kernel_rfl) (by kernel_rfl) (by kernel_rfl) (fun _ _ _ h => h) (Or.inl ⟨by rfl, ?_⟩) (by assumption) ?_
                rotate_left
                · intro w hSw
                  (try dsimp only at hSw)
                  go_simp
                  all_goals (with_reducible rfl)
                try simp only [Act.put, List.setIfInBounds_toArray, List.set_cons_zero, List.set_cons_succ]
                refine wpAnyH_ready (rs := [5]) (by kernel_rfl) (by simp) ?_
                refine AllReadyH.cons (o := { dst := some 68, op := Go.Op.call { callee := Go.Callee.value (Go.Operand.func 33), args := #[Go.Operand.tmp 67], argTypes := #[33] }, type := 9, pos := "audit.go:182", after := #[{ on := 4, ground := Go.Ground.data }, { on := 3, ground := Go.Ground.chain }, { on := 3, ground := Go.Ground.guard }], guard := some (3, true) }) rfl (fun K hK => ?_) AllReadyH.nil
                go_simp
                refine (CL.out _ (by repeat (first | assumption | with_reducible exact Keeps.refl _ _ | with_reducible refine Keeps.drew ?_ | with_reducible refine Keeps.alloc ?_ _))).mono ?_
                rintro _ w8 ⟨rfl, hx8⟩
                have hy8 : Ext Y w8 := Keeps.trans (by repeat (first | assumption | with_reducible exact Keeps.refl _ _ | with_reducible refine Keeps.drew ?_ | with_reducible refine Keeps.alloc ?_ _)) hx8
                clear r0 r1 r2 r3 r4 fR
                have hg8 := hy8.blk HgY.out
                have hr8 := hy8.blk HgRY.out
                have r0 := blk_cell hr8 0 rfl
                have r1 := blk_cell hr8 1 rfl
                have r2 := blk_cell hr8 2 rfl
                have r3 := blk_cell hr8 3 rfl
                have r4 := blk_cell hr8 4 rfl
                have fR := blk_free hr8
                clear hx8
                refine hK.out _ _ ?_ (fun hHeld => ?_)
                · exact hg8
                clear hK K
                try simp only [Act.put, List.setIfInBounds_toArray, List.set_cons_zero, List.set_cons_succ]
                refine wpAnyH_take (i := 7) (oi := { dst := some 70, op := Go.Op.binOp Go.BinOp.eql 9 (Go.Operand.tmp 68) (Go.Operand.tmp 69) 9, type := 4, pos := "audit.go:182", after := #[{ on := 5, ground := Go.Ground.data }, { on := 6, ground := Go.Ground.data }, { on := 3, ground := Go.Ground.guard }, { on := 9, ground := Go.Ground.gcOnly Go.Departure.lateStores }], guard := some (3, true) }) (v := ?_) rfl (by kernel_rfl) (by kernel_rfl) (by kernel_rfl) (fun _ _ _ h => h) (Or.inl ⟨by rfl, ?_⟩) (by assumption) ?_
                rotate_left
                · intro w hSw
                  (try dsimp only at hSw)
                  go_simp
                  all_goals (with_reducible rfl)
                try simp only [Act.put, List.setIfInBounds_toArray, List.set_cons_zero, List.set_cons_succ]
                refine wpAnyH_take (i := 8) (oi := { dst := some 71, op := Go.Op.pick (Go.Operand.tmp 66) (Go.Operand.tmp 70) (Go.Operand.const (Go.Value.bool false)), type := 4, pos := "audit.go:182", after := #[{ on := 3, ground := Go.Ground.data }, { on := 7, ground := Go.Ground.data }, { on := 9, ground := Go.Ground.gcOnly Go.Departure.lateStores }], guard := none }) (v := ?_) rfl (by kernel_rfl) (by kernel_rfl) (by kernel_rfl) (fun _ _ _ h => h) (Or.inl ⟨by rfl, ?_⟩) (by assumption) ?_
                rotate_left
                · intro w hSw
                  (try dsimp only at hSw)
                  go_simp
                  all_goals (with_reducible rfl)
                try simp only [Act.put, List.setIfInBounds_toArray, List.set_cons_zero, List.set_cons_succ]
                refine wpAnyH_ready (rs := [9]) (by kernel_rfl) (by simp) ?_
                refine AllReadyH.cons (o := { dst := none, op := Go.Op.store 33 (Go.Operand.tmp 2) (Go.Operand.tmp 63), type := 0, pos := "audit.go:182", after := #[{ on := 0, ground := Go.Ground.data }, { on := 5, ground := Go.Ground.chain }, { on := 0, ground := Go.Ground.phase }, { on := 1, ground := Go.Ground.textOnly Go.Departure.lateStores }, { on := 2, ground := Go.Ground.textOnly Go.Departure.lateStoresUnsure }, { on := 3, ground := Go.Ground.textOnly Go.Departure.lateStores }, { on := 4, ground := Go.Ground.textOnly Go.Departure.lateStores }, { on := 5, ground := Go.Ground.textOnly Go.Departure.lateStoresUnsure }, { on := 6, ground := Go.Ground.textOnly Go.Departure.lateStores }, { on := 7, ground := Go.Ground.textOnly Go.Departure.lateStores }, { on := 8, ground := Go.Ground.textOnly Go.Departure.lateStores }], guard := none }) rfl (fun K hK => ?_) AllReadyH.nil
                go_simp
                refine hK.out _ _ ?_ (fun hHeld => ?_)
                · (repeat (with_reducible refine blk_far ?_ (by simp; omega) _)); exact hg8
                clear hK K
                try simp only [Act.put, List.setIfInBounds_toArray, List.set_cons_zero, List.set_cons_succ]
                refine wpAnyH_take (i := 10) (oi := { dst := some 3, op := Go.Op.assign (Go.Operand.tmp 71), type := 4, pos := "audit.go:182", after := #[{ on := 8, ground := Go.Ground.data }, { on := 9, ground := Go.Ground.chain }, { on := 0, ground := Go.Ground.phase }, { on := 1, ground := Go.Ground.phase }, { on := 2, ground := Go.Ground.phase }, { on := 3, ground := Go.Ground.phase }, { on := 4, ground := Go.Ground.phase }, { on := 5, ground := Go.Ground.phase }, { on := 6, ground := Go.Ground.phase }, { on := 7, ground := Go.Ground.phase }, { on := 8, ground := Go.Ground.phase }, { on := 9, ground := Go.Ground.phase }], guard := none }) (v := ?_) rfl (by kernel_rfl) (by kernel_rfl) (by kernel_rfl) (fun _ _ _ h => h) (Or.inl ⟨by rfl, ?_⟩) (by assumption) ?_
                rotate_left
                · intro w hSw
                  (try dsimp only at hSw)
                  go_simp
                  all_goals (with_reducible rfl)
                try simp only [Act.put, List.setIfInBounds_toArray, List.set_cons_zero, List.set_cons_succ]
                refine wpAnyH_done (by kernel_rfl) ?_ _
                refine NoPanic.normal ?_
                · skip
                  go_wp2_with fail
                  refine bodyPost_ret (v := .tuple #[.agg #[.int .i64 x0, .int .i64 x1, .string w2, .slice A4 items.length c4, .int .u64 (u : Int)], .bool true]) (by simp [results, Tryd.results39, go_sem, *]) rfl (.inr ⟨(⟨x0, x1, w2, items, u⟩ : Ent), Hyes.out, A4, c4, rfl, hc4, ?_, ?_⟩)
                  · refine (HslY.out.keep (w' := _) (ok := fun k => X.heap.size < k) ?_).mono (fun k _ h => by omega)
                    have hx : Keeps (fun k => X.heap.size < k) Y w8 := hy8.keeps _
                    repeat (first | with_reducible exact hx | with_reducible exact Keeps.refl _ _ | with_reducible refine Keeps.drew ?_ | with_reducible refine Keeps.drewN ?_ _ | with_reducible refine Keeps.alloc ?_ _ | with_reducible refine Keeps.setCell ?_ (by first | (intro h; simp at h; done) | (intro _; simp; done) | (intro _; simp; omega) | (intro h; simp at h; omega)) _)
                  · have hx := HXY.out.trans hy8
                    repeat (first | with_reducible exact hx | with_reducible exact Keeps.refl _ _ | with_reducible refine Keeps.drew ?_ | with_reducible refine Keeps.drewN ?_ _ | with_reducible refine Keeps.alloc ?_ _ | with_reducible refine Keeps.setCell ?_ (by first | (intro h; simp at h; done) | (intro _; simp; done) | (intro _; simp; omega) | (intro h; simp at h; omega)) _)
          · have hd2 : (w3.toList != [46]) = false := by rw [bne, hd']; rfl
            have Hip := Lib.hid (show itemsP w3.data.toList = [] by unfold itemsP; rw [hd]; rfl)
            go_upto_region 17 with fail
            obtain ⟨items, hit⟩ : ∃ l : List ByteArray, l = [] := ⟨_, rfl⟩
            have Hit := Lib.hid (show items = itemsP w3.data.toList by rw [hit, Hip.out])
            have hgY := Hat3.out.g5
            have hxY := Hat3.out.ext
            have hc4 : items.length ≤ 0 := by rw [hit]; exact Nat.le_refl _
            have hslY : Sl strR (fun k => X.heap.size < k) W3 none items.length items := by rw [hit]; exact Sl.nil_
            have hl0 : items.length = 0 := by rw [hit]; rfl
            have Hl0 := Lib.hid hl0
            clear hit hd hd' hd2 t3 hl0
            generalize W3 = Y at *
            have HgY := Lib.hid hgY
            have HslY := Lib.hid hslY
            have HXY := Lib.hid (HX.out.trans hxY)
            have HgRY := Lib.hid (Ext.blk hxY HgR.out)
            have hbox : ∀ (Z : World) (j : Nat), Z.heap[X.heap.size]? = some (.cells #[.int .i64 x0, .int .i64 x1, .string w2, .slice none 0 0, .int .u64 (u : Int)] 33) → Z.cell? ⟨X.heap.size, j, none⟩ = (#[.int .i64 x0, .int .i64 x1, .string w2, .slice none 0 0, .int .u64 (u : Int)] : Array Value)[j]? := fun Z j h => by simp [World.cell?, h]
            have hwX : w.heap.size ≠ X.heap.size := by omega
            have hsi : ∀ s ∈ items, s.size ≤ 999999 := by rw [Hit.out]; exact fun s hs => Nat.le_trans (itemsP_size hs) (by simpa using m3)
            have hil : items.length ≤ 1000000 := by
              rw [Hit.out]
              have h3 : w3.data.toList.length = w3.size := by simp
              have h4 := itemsP_len w3.data.toList
              omega
            have hw2 : w2.size ≤ 999999 := Hsz.out w2 (by simp)
            have Hsi := Lib.hid hsi
            have Hwi := Lib.hid (show bts w2.data.toList = w2 from bts_of w2)
            clear hgY hxY hslY hsi
            cases hm : mayE (⟨x0, x1, w2, items, u⟩ : Ent)
            · have CM := Lib.hid (fun (W : World) (h : Ext Y W) => show Calls Tryd.prog 28 #[.agg #[.int .i64 x0, .int .i64 x1, .string w2, .slice none 0 0, .int .u64 (u : Int)]] W (fun r w' => r = .returned (.bool false) ∧ Ext W w') by have h9 : Calls Tryd.prog 28 #[.agg #[.int .i64 x0, .int .i64 x1, .string w2, .slice none items.length 0, .int .u64 (u : Int)]] W (fun r w' => r = .returned (.bool (mayE (⟨x0, x1, w2, items, u⟩ : Ent))) ∧ Ext W w') := aud_may (⟨x0, x1, w2, items, u⟩ : Ent) none 0 _ W (HslY.out.ext h) (by unfold maxLen; show items.length ≤ _; omega) (by unfold maxLen; show w2.size ≤ _; omega) (fun s hs => by unfold maxLen; have := Hsi.out s hs; omega); rw [hm] at h9; rw [Hl0.out] at h9; exact h9)
              have Hno := Lib.hid (show entP s.data.toList = none from ent_noM Hl.out Hp0.out Hp1.out Hpu.out (.inl (by rw [Hwi.out, ← Hit.out]; exact hm)))
              clear hm
              refine wp_region_noPanic ?_
              refine wp_region_held_drew (S := fun w' => w'.heap[X.heap.size]? = some (.cells #[.int .i64 x0, .int .i64 x1, .string w2, .slice none 0 0, .int .u64 (u : Int)] 33)) (by kernel_rfl) ?_ (fun hHeld => ?_)
              · exact HgY.out
              refine wpAnyH_take (i := 0) (oi := { dst := some 63, op := Go.Op.load 33 (Go.Operand.tmp 5), type := 33, pos := "audit.go:182", after := #[], guard := none }) (v := ?_) rfl (by kernel_rfl) (by kernel_rfl) (by kernel_rfl) (fun _ _ _ h => h) (Or.inl ⟨by rfl, ?_⟩) (by assumption) ?_
              rotate_left
              · intro w hSw
                (try dsimp only at hSw)
                go_simp
                all_goals (with_reducible rfl)
              try simp only [Act.put, List.setIfInBounds_toArray, List.set_cons_zero, List.set_cons_succ]
              refine wpAnyH_take (i := 1) (oi := { dst := some 64, op := Go.Op.load 33 (Go.Operand.tmp 5), type := 33, pos := "audit.go:182", after := #[], guard := none }) (v := ?_) rfl (by kernel_rfl) (by kernel_rfl) (by kernel_rfl) (fun _ _ _ h => h) (Or.inl ⟨by rfl, ?_⟩) (by assumption) ?_
              rotate_left
              · intro w hSw
                (try dsimp only at hSw)
                go_simp
                all_goals (with_reducible rfl)
              try simp only [Act.put, List.setIfInBounds_toArray, List.set_cons_zero, List.set_cons_succ]
              refine wpAnyH_ready (rs := [2]) (by kernel_rfl) (by simp) ?_
              refine AllReadyH.cons (o := { dst := some 65, op := Go.Op.call { callee := Go.Callee.value (Go.Operand.func 28), args := #[Go.Operand.tmp 64], argTypes := #[33] }, type := 4, pos := "audit.go:182", after := #[{ on := 1, ground := Go.Ground.data }], guard := none }) rfl (fun K hK => ?_) AllReadyH.nil
              go_simp
              refine (CM.out _ (by repeat (first | assumption | with_reducible exact Keeps.refl _ _ | with_reducible refine Keeps.drew ?_ | with_reducible refine Keeps.alloc ?_ _))).mono ?_
              rintro _ w7 ⟨rfl, hx7⟩
              have hy7 : Ext Y w7 := Keeps.trans (by repeat (first | assumption | with_reducible exact Keeps.refl _ _ | with_reducible refine Keeps.drew ?_ | with_reducible refine Keeps.alloc ?_ _)) hx7
              have hg7 := hy7.blk HgY.out
              have hr7 := hy7.blk HgRY.out
              have r0 := blk_cell hr7 0 rfl
              have r1 := blk_cell hr7 1 rfl
              have r2 := blk_cell hr7 2 rfl
              have r3 := blk_cell hr7 3 rfl
              have r4 := blk_cell hr7 4 rfl
              have fR := blk_free hr7
              clear hx7
              refine hK.out _ _ ?_ (fun hHeld => ?_)
              · exact hg7
              clear hK K
              try simp only [Act.put, List.setIfInBounds_toArray, List.set_cons_zero, List.set_cons_succ]
              refine wpAnyH_take (i := 3) (oi := { dst := some 66, op := Go.Op.move (Go.Operand.tmp 65), type := 4, pos := "audit.go:182", after := #[{ on := 2, ground := Go.Ground.data }, { on := 2, ground := Go.Ground.chain }], guard := none }) (v := ?_) rfl (by kernel_rfl) (by kernel_rfl) (by kernel_rfl) (fun _ _ _ h => h) (Or.inl ⟨by rfl, ?_⟩) (by assumption) ?_
              rotate_left
              · intro w hSw
                (try dsimp only at hSw)
                go_simp
                all_goals (with_reducible rfl)
              try simp only [Act.put, List.setIfInBounds_toArray, List.set_cons_zero, List.set_cons_succ]
              refine wpAnyH_take (i := 4) (oi := { dst := some 67, op := Go.Op.load 33 (Go.Operand.tmp 5), type := 33, pos := "audit.go:182", after := #[{ on := 3, ground := Go.Ground.guard }], guard := some (3, true) }) (v := undef) rfl (by kernel_rfl) (by kernel_rfl) (by kernel_rfl) (fun _ _ _ h => h) (Or.inr ⟨by rfl, rfl⟩) (by assumption) ?_
              try simp only [Act.put, List.setIfInBounds_toArray, List.set_cons_zero, List.set_cons_succ]
              refine wpAnyH_take (i := 5) (oi := { dst := some 68, op := Go.Op.call { callee := Go.Callee.value (Go.Operand.func 33), args := #[Go.Operand.tmp 67], argTypes := #[33] }, type := 9, pos := "audit.go:182", after := #[{ on := 4, ground := Go.Ground.data }, { on := 3, ground := Go.Ground.chain }, { on := 3, ground := Go.Ground.guard }], guard := some (3, true) }) (v := undef) rfl (by kernel_rfl) (by kernel_rfl) (by kernel_rfl) (fun _ _ _ h => h) (Or.inr ⟨by rfl, rfl⟩) (by assumption) ?_
              try simp only [Act.put, List.setIfInBounds_toArray, List.set_cons_zero, List.set_cons_succ]
              refine wpAnyH_take (i := 6) (oi := { dst := some 69, op := Go.Op.move (Go.Operand.tmp 0), type := 9, pos := "audit.go:182", after := #[{ on := 3, ground := Go.Ground.guard }, { on := 9, ground := Go.Ground.gcOnly Go.Departure.lateStores }], guard := some (3, true) }) (v := undef) rfl (by kernel_rfl) (by kernel_rfl) (by kernel_rfl) (fun _ _ _ h => h) (Or.inr ⟨by rfl, rfl⟩) (by assumption) ?_
              try simp only [Act.put, List.setIfInBounds_toArray, List.set_cons_zero, List.set_cons_succ]
              refine wpAnyH_take (i := 7) (oi := { dst := some 70, op := Go.Op.binOp Go.BinOp.eql 9 (Go.Operand.tmp 68) (Go.Operand.tmp 69) 9, type := 4, pos := "audit.go:182", after := #[{ on := 5, ground := Go.Ground.data }, { on := 6, ground := Go.Ground.data }, { on := 3, ground := Go.Ground.guard }, { on := 9, ground := Go.Ground.gcOnly Go.Departure.lateStores }], guard := some (3, true) }) (v := undef) rfl (by kernel_rfl) (by kernel_rfl) (by kernel_rfl) (fun _ _ _ h => h) (Or.inr ⟨by rfl, rfl⟩) (by assumption) ?_
              try simp only [Act.put, List.setIfInBounds_toArray, List.set_cons_zero, List.set_cons_succ]
              refine wpAnyH_take (i := 8) (oi := { dst := some 71, op := Go.Op.pick (Go.Operand.tmp 66) (Go.Operand.tmp 70) (Go.Operand.const (Go.Value.bool false)), type := 4, pos := "audit.go:182", after := #[{ on := 3, ground := Go.Ground.data }, { on := 7, ground := Go.Ground.data }, { on := 9, ground := Go.Ground.gcOnly Go.Departure.lateStores }], guard := none }) (v := ?_) rfl (by kernel_rfl) (by kernel_rfl) (by kernel_rfl) (fun _ _ _ h => h) (Or.inl ⟨by rfl, ?_⟩) (by assumption) ?_
              rotate_left
              · intro w hSw
                (try dsimp only at hSw)
                go_simp
                all_goals (with_reducible rfl)
              try simp only [Act.put, List.setIfInBounds_toArray, List.set_cons_zero, List.set_cons_succ]
              refine wpAnyH_ready (rs := [9]) (by kernel_rfl) (by simp) ?_
              refine AllReadyH.cons (o := { dst := none, op := Go.Op.store 33 (Go.Operand.tmp 2) (Go.Operand.tmp 63), type := 0, pos := "audit.go:182", after := #[{ on := 0, ground := Go.Ground.data }, { on := 5, ground := Go.Ground.chain }, { on := 0, ground := Go.Ground.phase }, { on := 1, ground := Go.Ground.textOnly Go.Departure.lateStores }, { on := 2, ground := Go.Ground.textOnly Go.Departure.lateStoresUnsure }, { on := 3, ground := Go.Ground.textOnly Go.Departure.lateStores }, { on := 4, ground := Go.Ground.textOnly Go.Departure.lateStores }, { on := 5, ground := Go.Ground.textOnly Go.Departure.lateStoresUnsure }, { on := 6, ground := Go.Ground.textOnly Go.Departure.lateStores }, { on := 7, ground := Go.Ground.textOnly Go.Departure.lateStores }, { on := 8, ground := Go.Ground.textOnly Go.Departure.lateStores }], guard := none }) rfl (fun K hK => ?_) AllReadyH.nil
              go_simp
              refine hK.out _ _ ?_ (fun hHeld => ?_)
              · (repeat (with_reducible refine blk_far ?_ (by simp; omega) _)); exact hg7
              clear hK K
              try simp only [Act.put, List.setIfInBounds_toArray, List.set_cons_zero, List.set_cons_succ]
              refine wpAnyH_take (i := 10) (oi := { dst := some 3, op := Go.Op.assign (Go.Operand.tmp 71), type := 4, pos := "audit.go:182", after := #[{ on := 8, ground := Go.Ground.data }, { on := 9, ground := Go.Ground.chain }, { on := 0, ground := Go.Ground.phase }, { on := 1, ground := Go.Ground.phase }, { on := 2, ground := Go.Ground.phase }, { on := 3, ground := Go.Ground.phase }, { on := 4, ground := Go.Ground.phase }, { on := 5, ground := Go.Ground.phase }, { on := 6, ground := Go.Ground.phase }, { on := 7, ground := Go.Ground.phase }, { on := 8, ground := Go.Ground.phase }, { on := 9, ground := Go.Ground.phase }], guard := none }) (v := ?_) rfl (by kernel_rfl) (by kernel_rfl) (by kernel_rfl) (fun _ _ _ h => h) (Or.inl ⟨by rfl, ?_⟩) (by assumption) ?_
              rotate_left
              · intro w hSw
                (try dsimp only at hSw)
                go_simp
                all_goals (with_reducible rfl)
              try simp only [Act.put, List.setIfInBounds_toArray, List.set_cons_zero, List.set_cons_succ]
              refine wpAnyH_done (by kernel_rfl) ?_ _
              refine NoPanic.normal ?_
              · skip
                go_wp2_with fail
                refine bodyPost_ret (v := .tuple #[.agg #[.int .i64 x0, .int .i64 x1, .string w2, .slice none 0 0, .int .u64 (u : Int)], .bool false]) (by simp [results, Tryd.results39, go_sem, *]) rfl (.inl ⟨Hno.out, ⟨_, _, _, _, _, _, _, rfl, ?_⟩⟩)
                have hx := HXY.out.trans hy7
                repeat (first | with_reducible exact hx | with_reducible exact Keeps.refl _ _ | with_reducible refine Keeps.drew ?_ | with_reducible refine Keeps.drewN ?_ _ | with_reducible refine Keeps.alloc ?_ _ | with_reducible refine Keeps.setCell ?_ (by first | (intro h; simp at h; done) | (intro _; simp; done) | (intro _; simp; omega) | (intro h; simp at h; omega)) _)
            · have CM := Lib.hid (fun (W : World) (h : Ext Y W) => show Calls Tryd.prog 28 #[.agg #[.int .i64 x0, .int .i64 x1, .string w2, .slice none 0 0, .int .u64 (u : Int)]] W (fun r w' => r = .returned (.bool true) ∧ Ext W w') by have h9 : Calls Tryd.prog 28 #[.agg #[.int .i64 x0, .int .i64 x1, .string w2, .slice none items.length 0, .int .u64 (u : Int)]] W (fun r w' => r = .returned (.bool (mayE (⟨x0, x1, w2, items, u⟩ : Ent))) ∧ Ext W w') := aud_may (⟨x0, x1, w2, items, u⟩ : Ent) none 0 _ W (HslY.out.ext h) (by unfold maxLen; show items.length ≤ _; omega) (by unfold maxLen; show w2.size ≤ _; omega) (fun s hs => by unfold maxLen; have := Hsi.out s hs; omega); rw [hm] at h9; rw [Hl0.out] at h9; exact h9)
              obtain ⟨p1, p2, p3, p4, p5, p6, p7⟩ := mayE_parts' hm
              have hpu := parseU_lt Hpu.out
              have hin : ∀ s ∈ items, s.size ≤ 1000 := fun s hs => by have := nameB_size (List.all_eq_true.1 p7 s hs); omega
              obtain ⟨Ln, hLn⟩ : ∃ Ln : ByteArray, Ln = ⟨(lineL (⟨x0, x1, w2, items, u⟩ : Ent)).toArray⟩ := ⟨_, rfl⟩
              have CL := Lib.hid (fun (W : World) (h : Ext Y W) => show Calls Tryd.prog 33 #[.agg #[.int .i64 x0, .int .i64 x1, .string w2, .slice none 0 0, .int .u64 (u : Int)]] W (fun r w' => r = .returned (.string Ln) ∧ Ext W w') by have h9 : Calls Tryd.prog 33 #[.agg #[.int .i64 x0, .int .i64 x1, .string w2, .slice none items.length 0, .int .u64 (u : Int)]] W (fun r w' => r = .returned (.string ⟨(lineL (⟨x0, x1, w2, items, u⟩ : Ent)).toArray⟩) ∧ Ext W w') := aud_line (⟨x0, x1, w2, items, u⟩ : Ent) none 0 _ W (HslY.out.ext h) hc4 p6 (by have := nameB_size p5; show w2.size ≤ 1000; have h8 : w2.size ≤ 24 := this; omega) hin p1 (by have h8 : x0 ≤ 1048576 := p2; show x0 ≤ _; omega) p3 p4 (by show (0 : Int) ≤ (u : Int); omega) (by show (u : Int) < _; omega) (Hv.out.pow.ext (HXY.out.trans h)); rw [← hLn] at h9; rw [Hl0.out] at h9; exact h9)
              cases hq : (Ln.toList == s.toList)
              · have Hno := Lib.hid (show entP s.data.toList = none from ent_noM Hl.out Hp0.out Hp1.out Hpu.out (.inr (by rw [Hwi.out, ← Hit.out]; intro h9; rw [hLn, ByteArray.toList_eq, ByteArray.toList_eq, beq_eq_false_iff_ne] at hq; exact hq (by simpa using h9))))
                clear hm p1 p2 p3 p4 p5 p6 p7 hpu hin hLn
                refine wp_region_noPanic ?_
                refine wp_region_held_drew (S := fun w' => w'.heap[X.heap.size]? = some (.cells #[.int .i64 x0, .int .i64 x1, .string w2, .slice none 0 0, .int .u64 (u : Int)] 33)) (by kernel_rfl) ?_ (fun hHeld => ?_)
                · exact HgY.out
                refine wpAnyH_take (i := 0) (oi := { dst := some 63, op := Go.Op.load 33 (Go.Operand.tmp 5), type := 33, pos := "audit.go:182", after := #[], guard := none }) (v := ?_) rfl (by kernel_rfl) (by kernel_rfl) (by kernel_rfl) (fun _ _ _ h => h) (Or.inl ⟨by rfl, ?_⟩) (by assumption) ?_
                rotate_left
                · intro w hSw
                  (try dsimp only at hSw)
                  go_simp
                  all_goals (with_reducible rfl)
                try simp only [Act.put, List.setIfInBounds_toArray, List.set_cons_zero, List.set_cons_succ]
                refine wpAnyH_take (i := 1) (oi := { dst := some 64, op := Go.Op.load 33 (Go.Operand.tmp 5), type := 33, pos := "audit.go:182", after := #[], guard := none }) (v := ?_) rfl (by kernel_rfl) (by kernel_rfl) (by kernel_rfl) (fun _ _ _ h => h) (Or.inl ⟨by rfl, ?_⟩) (by assumption) ?_
                rotate_left
                · intro w hSw
                  (try dsimp only at hSw)
                  go_simp
                  all_goals (with_reducible rfl)
                try simp only [Act.put, List.setIfInBounds_toArray, List.set_cons_zero, List.set_cons_succ]
                refine wpAnyH_ready (rs := [2]) (by kernel_rfl) (by simp) ?_
                refine AllReadyH.cons (o := { dst := some 65, op := Go.Op.call { callee := Go.Callee.value (Go.Operand.func 28), args := #[Go.Operand.tmp 64], argTypes := #[33] }, type := 4, pos := "audit.go:182", after := #[{ on := 1, ground := Go.Ground.data }], guard := none }) rfl (fun K hK => ?_) AllReadyH.nil
                go_simp
                refine (CM.out _ (by repeat (first | assumption | with_reducible exact Keeps.refl _ _ | with_reducible refine Keeps.drew ?_ | with_reducible refine Keeps.alloc ?_ _))).mono ?_
                rintro _ w7 ⟨rfl, hx7⟩
                have hy7 : Ext Y w7 := Keeps.trans (by repeat (first | assumption | with_reducible exact Keeps.refl _ _ | with_reducible refine Keeps.drew ?_ | with_reducible refine Keeps.alloc ?_ _)) hx7
                have hg7 := hy7.blk HgY.out
                have hr7 := hy7.blk HgRY.out
                have r0 := blk_cell hr7 0 rfl
                have r1 := blk_cell hr7 1 rfl
                have r2 := blk_cell hr7 2 rfl
                have r3 := blk_cell hr7 3 rfl
                have r4 := blk_cell hr7 4 rfl
                have fR := blk_free hr7
                clear hx7
                refine hK.out _ _ ?_ (fun hHeld => ?_)
                · exact hg7
                clear hK K
                try simp only [Act.put, List.setIfInBounds_toArray, List.set_cons_zero, List.set_cons_succ]
                refine wpAnyH_take (i := 3) (oi := { dst := some 66, op := Go.Op.move (Go.Operand.tmp 65), type := 4, pos := "audit.go:182", after := #[{ on := 2, ground := Go.Ground.data }, { on := 2, ground := Go.Ground.chain }], guard := none }) (v := ?_) rfl (by kernel_rfl) (by kernel_rfl) (by kernel_rfl) (fun _ _ _ h => h) (Or.inl ⟨by rfl, ?_⟩) (by assumption) ?_
                rotate_left
                · intro w hSw
                  (try dsimp only at hSw)
                  go_simp
                  all_goals (with_reducible rfl)
                try simp only [Act.put, List.setIfInBounds_toArray, List.set_cons_zero, List.set_cons_succ]
                refine wpAnyH_take (i := 4) (oi := { dst := some 67, op := Go.Op.load 33 (Go.Operand.tmp 5), type := 33, pos := "audit.go:182", after := #[{ on := 3, ground := Go.Ground.guard }], guard := some (3, true) }) (v := ?_) rfl (by kernel_rfl) (by kernel_rfl) (by kernel_rfl) (fun _ _ _ h => h) (Or.inl ⟨by rfl, ?_⟩) (by assumption) ?_
                rotate_left
                · intro w hSw
                  (try dsimp only at hSw)
                  go_simp
                  all_goals (with_reducible rfl)
                try simp only [Act.put, List.setIfInBounds_toArray, List.set_cons_zero, List.set_cons_succ]
                refine wpAnyH_take (i := 6) (oi := { dst := some 69, op := Go.Op.move (Go.Operand.tmp 0), type := 9, pos := "audit.go:182", after := #[{ on := 3, ground := Go.Ground.guard }, { on := 9, ground := Go.Ground.gcOnly Go.Departure.lateStores }], guard := some (3, true) }) (v := ?_) rfl (by kernel_rfl) (by kernel_rfl) (by kernel_rfl) (fun _ _ _ h => h) (Or.inl ⟨by rfl, ?_⟩) (by assumption) ?_
                rotate_left
                · intro w hSw
                  (try dsimp only at hSw)
                  go_simp
                  all_goals (with_reducible rfl)
                try simp only [Act.put, List.setIfInBounds_toArray, List.set_cons_zero, List.set_cons_succ]
                refine wpAnyH_ready (rs := [5]) (by kernel_rfl) (by simp) ?_
                refine AllReadyH.cons (o := { dst := some 68, op := Go.Op.call { callee := Go.Callee.value (Go.Operand.func 33), args := #[Go.Operand.tmp 67], argTypes := #[33] }, type := 9, pos := "audit.go:182", after := #[{ on := 4, ground := Go.Ground.data }, { on := 3, ground := Go.Ground.chain }, { on := 3, ground := Go.Ground.guard }], guard := some (3, true) }) rfl (fun K hK => ?_) AllReadyH.nil
                go_simp
                refine (CL.out _ (by repeat (first | assumption | with_reducible exact Keeps.refl _ _ | with_reducible refine Keeps.drew ?_ | with_reducible refine Keeps.alloc ?_ _))).mono ?_
                rintro _ w8 ⟨rfl, hx8⟩
                have hy8 : Ext Y w8 := Keeps.trans (by repeat (first | assumption | with_reducible exact Keeps.refl _ _ | with_reducible refine Keeps.drew ?_ | with_reducible refine Keeps.alloc ?_ _)) hx8
                clear r0 r1 r2 r3 r4 fR
                have hg8 := hy8.blk HgY.out
                have hr8 := hy8.blk HgRY.out
                have r0 := blk_cell hr8 0 rfl
                have r1 := blk_cell hr8 1 rfl
                have r2 := blk_cell hr8 2 rfl
                have r3 := blk_cell hr8 3 rfl
                have r4 := blk_cell hr8 4 rfl
                have fR := blk_free hr8
                clear hx8
                refine hK.out _ _ ?_ (fun hHeld => ?_)
                · exact hg8
                clear hK K
                try simp only [Act.put, List.setIfInBounds_toArray, List.set_cons_zero, List.set_cons_succ]
                refine wpAnyH_take (i := 7) (oi := { dst := some 70, op := Go.Op.binOp Go.BinOp.eql 9 (Go.Operand.tmp 68) (Go.Operand.tmp 69) 9, type := 4, pos := "audit.go:182", after := #[{ on := 5, ground := Go.Ground.data }, { on := 6, ground := Go.Ground.data }, { on := 3, ground := Go.Ground.guard }, { on := 9, ground := Go.Ground.gcOnly Go.Departure.lateStores }], guard := some (3, true) }) (v := ?_) rfl (by kernel_rfl) (by kernel_rfl) (by kernel_rfl) (fun _ _ _ h => h) (Or.inl ⟨by rfl, ?_⟩) (by assumption) ?_
                rotate_left
                · intro w hSw
                  (try dsimp only at hSw)
                  go_simp
                  all_goals (with_reducible rfl)
                try simp only [Act.put, List.setIfInBounds_toArray, List.set_cons_zero, List.set_cons_succ]
                refine wpAnyH_take (i := 8) (oi := { dst := some 71, op := Go.Op.pick (Go.Operand.tmp 66) (Go.Operand.tmp 70) (Go.Operand.const (Go.Value.bool false)), type := 4, pos := "audit.go:182", after := #[{ on := 3, ground := Go.Ground.data }, { on := 7, ground := Go.Ground.data }, { on := 9, ground := Go.Ground.gcOnly Go.Departure.lateStores }], guard := none }) (v := ?_) rfl (by kernel_rfl) (by kernel_rfl) (by kernel_rfl) (fun _ _ _ h => h) (Or.inl ⟨by rfl, ?_⟩) (by assumption) ?_
                rotate_left
                · intro w hSw
                  (try dsimp only at hSw)
                  go_simp
                  all_goals (with_reducible rfl)
                try simp only [Act.put, List.setIfInBounds_toArray, List.set_cons_zero, List.set_cons_succ]
                refine wpAnyH_ready (rs := [9]) (by kernel_rfl) (by simp) ?_
                refine AllReadyH.cons (o := { dst := none, op := Go.Op.store 33 (Go.Operand.tmp 2) (Go.Operand.tmp 63), type := 0, pos := "audit.go:182", after := #[{ on := 0, ground := Go.Ground.data }, { on := 5, ground := Go.Ground.chain }, { on := 0, ground := Go.Ground.phase }, { on := 1, ground := Go.Ground.textOnly Go.Departure.lateStores }, { on := 2, ground := Go.Ground.textOnly Go.Departure.lateStoresUnsure }, { on := 3, ground := Go.Ground.textOnly Go.Departure.lateStores }, { on := 4, ground := Go.Ground.textOnly Go.Departure.lateStores }, { on := 5, ground := Go.Ground.textOnly Go.Departure.lateStoresUnsure }, { on := 6, ground := Go.Ground.textOnly Go.Departure.lateStores }, { on := 7, ground := Go.Ground.textOnly Go.Departure.lateStores }, { on := 8, ground := Go.Ground.textOnly Go.Departure.lateStores }], guard := none }) rfl (fun K hK => ?_) AllReadyH.nil
                go_simp
                refine hK.out _ _ ?_ (fun hHeld => ?_)
                · (repeat (with_reducible refine blk_far ?_ (by simp; omega) _)); exact hg8
                clear hK K
                try simp only [Act.put, List.setIfInBounds_toArray, List.set_cons_zero, List.set_cons_succ]
                refine wpAnyH_take (i := 10) (oi := { dst := some 3, op := Go.Op.assign (Go.Operand.tmp 71), type := 4, pos := "audit.go:182", after := #[{ on := 8, ground := Go.Ground.data }, { on := 9, ground := Go.Ground.chain }, { on := 0, ground := Go.Ground.phase }, { on := 1, ground := Go.Ground.phase }, { on := 2, ground := Go.Ground.phase }, { on := 3, ground := Go.Ground.phase }, { on := 4, ground := Go.Ground.phase }, { on := 5, ground := Go.Ground.phase }, { on := 6, ground := Go.Ground.phase }, { on := 7, ground := Go.Ground.phase }, { on := 8, ground := Go.Ground.phase }, { on := 9, ground := Go.Ground.phase }], guard := none }) (v := ?_) rfl (by kernel_rfl) (by kernel_rfl) (by kernel_rfl) (fun _ _ _ h => h) (Or.inl ⟨by rfl, ?_⟩) (by assumption) ?_
                rotate_left
                · intro w hSw
                  (try dsimp only at hSw)
                  go_simp
                  all_goals (with_reducible rfl)
                try simp only [Act.put, List.setIfInBounds_toArray, List.set_cons_zero, List.set_cons_succ]
                refine wpAnyH_done (by kernel_rfl) ?_ _
                refine NoPanic.normal ?_
                · skip
                  go_wp2_with fail
                  refine bodyPost_ret (v := .tuple #[.agg #[.int .i64 x0, .int .i64 x1, .string w2, .slice none 0 0, .int .u64 (u : Int)], .bool false]) (by simp [results, Tryd.results39, go_sem, *]) rfl (.inl ⟨Hno.out, ⟨_, _, _, _, _, _, _, rfl, ?_⟩⟩)
                  have hx := HXY.out.trans hy8
                  repeat (first | with_reducible exact hx | with_reducible exact Keeps.refl _ _ | with_reducible refine Keeps.drew ?_ | with_reducible refine Keeps.drewN ?_ _ | with_reducible refine Keeps.alloc ?_ _ | with_reducible refine Keeps.setCell ?_ (by first | (intro h; simp at h; done) | (intro _; simp; done) | (intro _; simp; omega) | (intro h; simp at h; omega)) _)
              · have Hyes := Lib.hid (show entP s.data.toList = some (⟨x0, x1, w2, items, u⟩ : Ent) from by have h8 := entP_forth Hl.out Hp0.out Hp1.out Hpu.out (by rw [Hwi.out, ← Hit.out]; exact hm) (by rw [Hwi.out, ← Hit.out]; rw [hLn, ByteArray.toList_eq, ByteArray.toList_eq, beq_iff_eq] at hq; simpa using hq); rw [Hwi.out, ← Hit.out] at h8; exact h8)
                clear hm p1 p2 p3 p4 p5 p6 p7 hpu hin hLn
                refine wp_region_noPanic ?_
                refine wp_region_held_drew (S := fun w' => w'.heap[X.heap.size]? = some (.cells #[.int .i64 x0, .int .i64 x1, .string w2, .slice none 0 0, .int .u64 (u : Int)] 33)) (by kernel_rfl) ?_ (fun hHeld => ?_)
                · exact HgY.out
                refine wpAnyH_take (i := 0) (oi := { dst := some 63, op := Go.Op.load 33 (Go.Operand.tmp 5), type := 33, pos := "audit.go:182", after := #[], guard := none }) (v := ?_) rfl (by kernel_rfl) (by kernel_rfl) (by kernel_rfl) (fun _ _ _ h => h) (Or.inl ⟨by rfl, ?_⟩) (by assumption) ?_
                rotate_left
                · intro w hSw
                  (try dsimp only at hSw)
                  go_simp
                  all_goals (with_reducible rfl)
                try simp only [Act.put, List.setIfInBounds_toArray, List.set_cons_zero, List.set_cons_succ]
                refine wpAnyH_take (i := 1) (oi := { dst := some 64, op := Go.Op.load 33 (Go.Operand.tmp 5), type := 33, pos := "audit.go:182", after := #[], guard := none }) (v := ?_) rfl (by kernel_rfl) (by kernel_rfl) (by kernel_rfl) (fun _ _ _ h => h) (Or.inl ⟨by rfl, ?_⟩) (by assumption) ?_
                rotate_left
                · intro w hSw
                  (try dsimp only at hSw)
                  go_simp
                  all_goals (with_reducible rfl)
                try simp only [Act.put, List.setIfInBounds_toArray, List.set_cons_zero, List.set_cons_succ]
                refine wpAnyH_ready (rs := [2]) (by kernel_rfl) (by simp) ?_
                refine AllReadyH.cons (o := { dst := some 65, op := Go.Op.call { callee := Go.Callee.value (Go.Operand.func 28), args := #[Go.Operand.tmp 64], argTypes := #[33] }, type := 4, pos := "audit.go:182", after := #[{ on := 1, ground := Go.Ground.data }], guard := none }) rfl (fun K hK => ?_) AllReadyH.nil
                go_simp
                refine (CM.out _ (by repeat (first | assumption | with_reducible exact Keeps.refl _ _ | with_reducible refine Keeps.drew ?_ | with_reducible refine Keeps.alloc ?_ _))).mono ?_
                rintro _ w7 ⟨rfl, hx7⟩
                have hy7 : Ext Y w7 := Keeps.trans (by repeat (first | assumption | with_reducible exact Keeps.refl _ _ | with_reducible refine Keeps.drew ?_ | with_reducible refine Keeps.alloc ?_ _)) hx7
                have hg7 := hy7.blk HgY.out
                have hr7 := hy7.blk HgRY.out
                have r0 := blk_cell hr7 0 rfl
                have r1 := blk_cell hr7 1 rfl
                have r2 := blk_cell hr7 2 rfl
                have r3 := blk_cell hr7 3 rfl
                have r4 := blk_cell hr7 4 rfl
                have fR := blk_free hr7
                clear hx7
                refine hK.out _ _ ?_ (fun hHeld => ?_)
                · exact hg7
                clear hK K
                try simp only [Act.put, List.setIfInBounds_toArray, List.set_cons_zero, List.set_cons_succ]
                refine wpAnyH_take (i := 3) (oi := { dst := some 66, op := Go.Op.move (Go.Operand.tmp 65), type := 4, pos := "audit.go:182", after := #[{ on := 2, ground := Go.Ground.data }, { on := 2, ground := Go.Ground.chain }], guard := none }) (v := ?_) rfl (by kernel_rfl) (by kernel_rfl) (by kernel_rfl) (fun _ _ _ h => h) (Or.inl ⟨by rfl, ?_⟩) (by assumption) ?_
                rotate_left
                · intro w hSw
                  (try dsimp only at hSw)
                  go_simp
                  all_goals (with_reducible rfl)
                try simp only [Act.put, List.setIfInBounds_toArray, List.set_cons_zero, List.set_cons_succ]
                refine wpAnyH_take (i := 4) (oi := { dst := some 67, op := Go.Op.load 33 (Go.Operand.tmp 5), type := 33, pos := "audit.go:182", after := #[{ on := 3, ground := Go.Ground.guard }], guard := some (3, true) }) (v := ?_) rfl (by kernel_rfl) (by kernel_rfl) (by kernel_rfl) (fun _ _ _ h => h) (Or.inl ⟨by rfl, ?_⟩) (by assumption) ?_
                rotate_left
                · intro w hSw
                  (try dsimp only at hSw)
                  go_simp
                  all_goals (with_reducible rfl)
                try simp only [Act.put, List.setIfInBounds_toArray, List.set_cons_zero, List.set_cons_succ]
                refine wpAnyH_take (i := 6) (oi := { dst := some 69, op := Go.Op.move (Go.Operand.tmp 0), type := 9, pos := "audit.go:182", after := #[{ on := 3, ground := Go.Ground.guard }, { on := 9, ground := Go.Ground.gcOnly Go.Departure.lateStores }], guard := some (3, true) }) (v := ?_) rfl (by kernel_rfl) (by kernel_rfl) (by kernel_rfl) (fun _ _ _ h => h) (Or.inl ⟨by rfl, ?_⟩) (by assumption) ?_
                rotate_left
                · intro w hSw
                  (try dsimp only at hSw)
                  go_simp
                  all_goals (with_reducible rfl)
                try simp only [Act.put, List.setIfInBounds_toArray, List.set_cons_zero, List.set_cons_succ]
                refine wpAnyH_ready (rs := [5]) (by kernel_rfl) (by simp) ?_
                refine AllReadyH.cons (o := { dst := some 68, op := Go.Op.call { callee := Go.Callee.value (Go.Operand.func 33), args := #[Go.Operand.tmp 67], argTypes := #[33] }, type := 9, pos := "audit.go:182", after := #[{ on := 4, ground := Go.Ground.data }, { on := 3, ground := Go.Ground.chain }, { on := 3, ground := Go.Ground.guard }], guard := some (3, true) }) rfl (fun K hK => ?_) AllReadyH.nil
                go_simp
                refine (CL.out _ (by repeat (first | assumption | with_reducible exact Keeps.refl _ _ | with_reducible refine Keeps.drew ?_ | with_reducible refine Keeps.alloc ?_ _))).mono ?_
                rintro _ w8 ⟨rfl, hx8⟩
                have hy8 : Ext Y w8 := Keeps.trans (by repeat (first | assumption | with_reducible exact Keeps.refl _ _ | with_reducible refine Keeps.drew ?_ | with_reducible refine Keeps.alloc ?_ _)) hx8
                clear r0 r1 r2 r3 r4 fR
                have hg8 := hy8.blk HgY.out
                have hr8 := hy8.blk HgRY.out
                have r0 := blk_cell hr8 0 rfl
                have r1 := blk_cell hr8 1 rfl
                have r2 := blk_cell hr8 2 rfl
                have r3 := blk_cell hr8 3 rfl
                have r4 := blk_cell hr8 4 rfl
                have fR := blk_free hr8
                clear hx8
                refine hK.out _ _ ?_ (fun hHeld => ?_)
                · exact hg8
                clear hK K
                try simp only [Act.put, List.setIfInBounds_toArray, List.set_cons_zero, List.set_cons_succ]
                refine wpAnyH_take (i := 7) (oi := { dst := some 70, op := Go.Op.binOp Go.BinOp.eql 9 (Go.Operand.tmp 68) (Go.Operand.tmp 69) 9, type := 4, pos := "audit.go:182", after := #[{ on := 5, ground := Go.Ground.data }, { on := 6, ground := Go.Ground.data }, { on := 3, ground := Go.Ground.guard }, { on := 9, ground := Go.Ground.gcOnly Go.Departure.lateStores }], guard := some (3, true) }) (v := ?_) rfl (by kernel_rfl) (by kernel_rfl) (by kernel_rfl) (fun _ _ _ h => h) (Or.inl ⟨by rfl, ?_⟩) (by assumption) ?_
                rotate_left
                · intro w hSw
                  (try dsimp only at hSw)
                  go_simp
                  all_goals (with_reducible rfl)
                try simp only [Act.put, List.setIfInBounds_toArray, List.set_cons_zero, List.set_cons_succ]
                refine wpAnyH_take (i := 8) (oi := { dst := some 71, op := Go.Op.pick (Go.Operand.tmp 66) (Go.Operand.tmp 70) (Go.Operand.const (Go.Value.bool false)), type := 4, pos := "audit.go:182", after := #[{ on := 3, ground := Go.Ground.data }, { on := 7, ground := Go.Ground.data }, { on := 9, ground := Go.Ground.gcOnly Go.Departure.lateStores }], guard := none }) (v := ?_) rfl (by kernel_rfl) (by kernel_rfl) (by kernel_rfl) (fun _ _ _ h => h) (Or.inl ⟨by rfl, ?_⟩) (by assumption) ?_
                rotate_left
                · intro w hSw
                  (try dsimp only at hSw)
                  go_simp
                  all_goals (with_reducible rfl)
                try simp only [Act.put, List.setIfInBounds_toArray, List.set_cons_zero, List.set_cons_succ]
                refine wpAnyH_ready (rs := [9]) (by kernel_rfl) (by simp) ?_
                refine AllReadyH.cons (o := { dst := none, op := Go.Op.store 33 (Go.Operand.tmp 2) (Go.Operand.tmp 63), type := 0, pos := "audit.go:182", after := #[{ on := 0, ground := Go.Ground.data }, { on := 5, ground := Go.Ground.chain }, { on := 0, ground := Go.Ground.phase }, { on := 1, ground := Go.Ground.textOnly Go.Departure.lateStores }, { on := 2, ground := Go.Ground.textOnly Go.Departure.lateStoresUnsure }, { on := 3, ground := Go.Ground.textOnly Go.Departure.lateStores }, { on := 4, ground := Go.Ground.textOnly Go.Departure.lateStores }, { on := 5, ground := Go.Ground.textOnly Go.Departure.lateStoresUnsure }, { on := 6, ground := Go.Ground.textOnly Go.Departure.lateStores }, { on := 7, ground := Go.Ground.textOnly Go.Departure.lateStores }, { on := 8, ground := Go.Ground.textOnly Go.Departure.lateStores }], guard := none }) rfl (fun K hK => ?_) AllReadyH.nil
                go_simp
                refine hK.out _ _ ?_ (fun hHeld => ?_)
                · (repeat (with_reducible refine blk_far ?_ (by simp; omega) _)); exact hg8
                clear hK K
                try simp only [Act.put, List.setIfInBounds_toArray, List.set_cons_zero, List.set_cons_succ]
                refine wpAnyH_take (i := 10) (oi := { dst := some 3, op := Go.Op.assign (Go.Operand.tmp 71), type := 4, pos := "audit.go:182", after := #[{ on := 8, ground := Go.Ground.data }, { on := 9, ground := Go.Ground.chain }, { on := 0, ground := Go.Ground.phase }, { on := 1, ground := Go.Ground.phase }, { on := 2, ground := Go.Ground.phase }, { on := 3, ground := Go.Ground.phase }, { on := 4, ground := Go.Ground.phase }, { on := 5, ground := Go.Ground.phase }, { on := 6, ground := Go.Ground.phase }, { on := 7, ground := Go.Ground.phase }, { on := 8, ground := Go.Ground.phase }, { on := 9, ground := Go.Ground.phase }], guard := none }) (v := ?_) rfl (by kernel_rfl) (by kernel_rfl) (by kernel_rfl) (fun _ _ _ h => h) (Or.inl ⟨by rfl, ?_⟩) (by assumption) ?_
                rotate_left
                · intro w hSw
                  (try dsimp only at hSw)
                  go_simp
                  all_goals (with_reducible rfl)
                try simp only [Act.put, List.setIfInBounds_toArray, List.set_cons_zero, List.set_cons_succ]
                refine wpAnyH_done (by kernel_rfl) ?_ _
                refine NoPanic.normal ?_
                · skip
                  go_wp2_with fail
                  refine bodyPost_ret (v := .tuple #[.agg #[.int .i64 x0, .int .i64 x1, .string w2, .slice none 0 0, .int .u64 (u : Int)], .bool true]) (by simp [results, Tryd.results39, go_sem, *]) rfl (.inr ⟨(⟨x0, x1, w2, items, u⟩ : Ent), Hyes.out, none, 0, by show _ = Ending.returned (.tuple #[.agg #[.int .i64 x0, .int .i64 x1, .string w2, .slice none items.length 0, .int .u64 (u : Int)], .bool true]); rw [Hl0.out], hc4, ?_, ?_⟩)
                  · refine (HslY.out.keep (w' := _) (ok := fun k => X.heap.size < k) ?_).mono (fun k _ h => by omega)
                    have hx : Keeps (fun k => X.heap.size < k) Y w8 := hy8.keeps _
                    repeat (first | with_reducible exact hx | with_reducible exact Keeps.refl _ _ | with_reducible refine Keeps.drew ?_ | with_reducible refine Keeps.drewN ?_ _ | with_reducible refine Keeps.alloc ?_ _ | with_reducible refine Keeps.setCell ?_ (by first | (intro h; simp at h; done) | (intro _; simp; done) | (intro _; simp; omega) | (intro h; simp at h; omega)) _)
                  · have hx := HXY.out.trans hy8
                    repeat (first | with_reducible exact hx | with_reducible exact Keeps.refl _ _ | with_reducible refine Keeps.drew ?_ | with_reducible refine Keeps.drewN ?_ _ | with_reducible refine Keeps.alloc ?_ _ | with_reducible refine Keeps.setCell ?_ (by first | (intro h; simp at h; done) | (intro _; simp; done) | (intro _; simp; omega) | (intro h; simp at h; omega)) _)
end Go.Proofs.YtkfcbafmefdhmaaDoor
