/-
  What is proved here: the document's entry of a line of five words is the plain function's. Conditions: texts of at most a million bytes.
-/
import Derived.Test.YtkfcbafmefdhmaaDoorAuR3
namespace Go.Proofs.YtkfcbafmefdhmaaDoor
open Go Go.RowKit Go.Proofs
attribute [local go_sem ↓] Go.wp_at_zero Go.wp_at_succ
set_option maxRecDepth 100000 in
set_option maxHeartbeats 4000000 in
theorem ref_Line_5 (s : ByteArray) (w0 w1 w2 w3 w4 : ByteArray) (w : World) (hs : s.size ≤ 1000000) (hl : (partsL 32 s.data.toList).map bts = [w0, w1, w2, w3, w4]) (hsz : ∀ x ∈ [w0, w1, w2, w3, w4], x.size ≤ 1000000) :
    Calls Tryd.prog 42 #[.string s] w (fun e w' => (entP s.data.toList = none ∧ PeNo w e w') ∨ ∃ E, entP s.data.toList = some E ∧ PeYes E w e w') := by
  have HS' := Lib.hid (fun (W : World) => (ref_Parts s 32 W hs).mono (R' := fun e w' => ∃ b o c, e = .returned (.slice (some ⟨b, o, none⟩) 5 c) ∧ Ext W w' ∧ Sl strR (fun _ => True) w' (some ⟨b, o, none⟩) 5 [w0, w1, w2, w3, w4] ∧ b < w'.heap.size ∧ W.heap.size ≤ b) (fun _ _ ⟨A, c, h1, h2, h3⟩ => by
    rw [hl] at h1 h2
    have h4 := h2.sl (ok' := fun _ => True) (fun _ _ _ _ => trivial) (fun _ _ _ => trivial)
    obtain ⟨b, o, rfl, hb, _⟩ := h4.2 (by simp)
    exact ⟨b, o, c, h1, h3, h4, hb, (h2.lt b rfl).1⟩))
  have Hl := Lib.hid (show partsL 32 s.data.toList = [w0.data.toList, w1.data.toList, w2.data.toList, w3.data.toList, w4.data.toList] by
    have h9 := congrArg (List.map (fun s : ByteArray => s.data.toList)) hl
    rw [List.map_map] at h9
    rw [show (List.map ((fun s : ByteArray => s.data.toList) ∘ bts) (partsL 32 s.data.toList)) = partsL 32 s.data.toList by
      conv => rhs; rw [← List.map_id (partsL 32 s.data.toList)]
      apply List.map_congr_left
      intro x _
      exact bts_data x] at h9
    exact h9)
  have Hsz := Lib.hid hsz
  have hM : ∀ x ∈ [w0, w1, w2, w3, w4], x.size ≤ maxLen := fun x hx => by have := hsz x hx; unfold maxLen; omega
  obtain ⟨o0, ho0⟩ : ∃ o, o = smallI w0.data.toList 1048576 := ⟨_, rfl⟩
  obtain ⟨o1, ho1⟩ : ∃ o, o = smallI w1.data.toList 1099511627776 := ⟨_, rfl⟩
  have C0 := Lib.hid (fun (W : World) => show Calls Tryd.prog 59 #[.string w0, .int .i64 1048576] W (fun e w' => e = .returned (.int .i64 o0) ∧ W = w') by rw [ho0]; exact ref_small w0 1048576 W (hM w0 (by simp)) (by decide) (by decide))
  have C1 := Lib.hid (fun (W : World) => show Calls Tryd.prog 59 #[.string w1, .int .i64 1099511627776] W (fun e w' => e = .returned (.int .i64 o1) ∧ W = w') by rw [ho1]; exact ref_small w1 1099511627776 W (hM w1 (by simp)) (by decide) (by decide))
  have C4 := Lib.hid (fun (W : World) => ref_number w4 W (hM w4 (by simp)))
  have Ho := Lib.hid (And.intro ho0 ho1)
  clear hl hsz hM ho0 ho1
  go_enter Tryd.func42, Tryd.ntmps42
  go_wp2_with fail
  refine (HS'.out _).mono ?_
  rintro _ X ⟨b, o, c, rfl, hx1, hsl, hb, hb0⟩
  have hg1 := hx1.blk (blk_new w _)
  have hgl : w.heap.size < X.heap.size := (Array.getElem?_eq_some_iff.1 hg1).1
  have HX := Lib.hid (show Ext w X from Keeps.trans ((Keeps.refl (fun _ => True) w).alloc _) hx1)
  have HgR := Lib.hid hg1
  have s0 := hsl.strAt (k := 0) rfl
  have s1 := hsl.strAt (k := 1) rfl
  have s2 := hsl.strAt (k := 2) rfl
  have s3 := hsl.strAt (k := 3) rfl
  have s4 := hsl.strAt (k := 4) rfl
  simp only [Nat.add_zero] at s0
  clear hx1 hg1 hsl
  go_upto_region 4 with fail
  go_cut [5] (fun s5 wc => ∃ g, s5 = .pointer (some ⟨g, 0, none⟩) ∧ X.heap.size ≤ g ∧ wc.heap[g]? = some (.cells #[.int .i64 o0, .int .i64 o1, .string w2, .slice none 0 0, .int .u64 0] 30) ∧ Ext X wc)
  case first =>
    go_region_held3 (fun w' => X.heap.size ≤ w'.heap.size ∧ ∀ p : Addr, p.block < X.heap.size → w'.cell? p = X.cell? p) (repeat (first | with_reducible assumption | with_reducible exact Old.refl _ | with_reducible refine Old.drew ?_ | with_reducible refine Old.alloc ?_ _ | with_reducible refine Old.setCell ?_ (Nat.le_refl _) _)) (first
      | (go_at_call 59; ((with_reducible refine (C0.out _).mono ?_); rintro _ _ ⟨rfl, rfl⟩))
      | (go_at_call 59; ((with_reducible refine (C1.out _).mono ?_); rintro _ _ ⟨rfl, rfl⟩)))
    all_goals (go_wp2_with fail; go_meet)
    all_goals exact ⟨_, rfl, Nat.le_refl _, blk_new X _, ((Keeps.refl _ _).alloc _).drew⟩
  case rest =>
    obtain ⟨g, hs5, hgX, hgc, hxc⟩ := hcut
    subst hs5
    obtain ⟨Y, hY⟩ : ∃ Y, Y = wc := ⟨_, rfl⟩
    rw [← hY] at hgc hxc ⊢
    clear hY
    have t3 := (hxc.cell (p := ⟨b, o + 3, none⟩) hb trivial).trans s3
    have t4 := (hxc.cell (p := ⟨b, o + 4, none⟩) hb trivial).trans s4
    have HgR1 := Lib.hid (hxc.blk HgR.out)
    have HY := Lib.hid (HX.out.trans hxc)
    have Hgc := Lib.hid hgc
    have hgY : g < Y.heap.size := (Array.getElem?_eq_some_iff.1 hgc).1
    have hm2 : w2.size ≤ maxLen := by have := Hsz.out w2 (by simp); unfold maxLen; omega
    have Hm2 := Lib.hid hm2
    have hbg : b ≠ g := by omega
    have HC44 := Lib.hid (fun (W : World) => ref_Parts w3 44 W (Hsz.out w3 (by simp)))
    obtain ⟨items, hit⟩ : ∃ l, l = itemsP w3.data.toList := ⟨_, rfl⟩
    have Hit := Lib.hid hit.symm
    have Hmi := Lib.hid (show ∀ s ∈ items, s.size ≤ maxLen from fun s hs => by
      rw [hit] at hs
      have h1 := itemsP_size hs
      have h2 := Hsz.out w3 (by simp)
      have h3 : w3.data.toList.length = w3.size := by simp
      unfold maxLen; omega)
    clear s0 s1 s2 s3 s4 hgc hxc hm2 HS'
    cases hd : (w3.data.toList == [46]) <;> have hd' : (w3.toList == [46]) = _ := (show (w3.toList == [46]) = (w3.data.toList == [46]) by rw [ByteArray.toList_eq]).trans hd
    · have hd2 : (w3.toList != [46]) = true := by rw [bne, hd']; rfl
      have hi2 : items = (partsL 44 w3.data.toList).map bts := by rw [hit]; unfold itemsP; rw [hd]; rfl
      rw [← hi2] at HC44
      clear hd hit hi2
      go_wp2_with fail
      refine (HC44.out _).mono ?_
      rintro _ V0 ⟨A3, c3, rfl, hown3, hx3⟩
      have Hcap := Lib.hid hown3.cap
      have u4 := (hx3.cell (p := ⟨b, o + 4, none⟩) (by show b < Y.heap.size; omega) trivial).trans t4
      have hgc3 := hx3.blk Hgc.out
      have e3 := blk_cell hgc3 3 rfl
      have f3 := blk_free hgc3
      have hgV0 : g < V0.heap.size := (Array.getElem?_eq_some_iff.1 hgc3).1
      have Hgc3 := Lib.hid hgc3
      have Hown3 := Lib.hid hown3
      have Hx3 := Lib.hid hx3
      clear hgc3 hown3 hx3 t3 t4
      go_wp2_with fail
      have HgB := Lib.hid (show (V0.setCell ⟨g, 3, none⟩ (.slice A3 items.length c3)).heap[g]? = some (.cells #[.int .i64 o0, .int .i64 o1, .string w2, .slice A3 items.length c3, .int .u64 0] 30) by simpa using blk_set Hgc3.out 3 (.slice A3 items.length c3))
      have HgR2 := Lib.hid (blk_far (Hx3.out.blk HgR1.out) (show w.heap.size ≠ (⟨g, 3, none⟩ : Addr).block by simp; omega) (.slice A3 items.length c3))
      have HY2 := Lib.hid (show Ext w (V0.setCell ⟨g, 3, none⟩ (.slice A3 items.length c3)) from Keeps.setCell (HY.out.trans Hx3.out) (fun h9 => by simp at h9; omega) _)
      have HsB := Lib.hid (show Sl strR (fun k => (w.heap.size ≤ k ∧ k ≠ w.heap.size) ∧ k ≠ g) (V0.setCell ⟨g, 3, none⟩ (.slice A3 items.length c3)) A3 items.length items from
        ((Own.flat (ok' := fun k => (w.heap.size ≤ k ∧ k ≠ w.heap.size) ∧ k ≠ g) strR_flat Hown3.out (fun _ _ => rfl)).sl (ok' := fun k => (w.heap.size ≤ k ∧ k ≠ w.heap.size) ∧ k ≠ g) (fun k hk _ _ => ⟨⟨by have := HY.out.size; omega, by have := HY.out.size; omega⟩, by omega⟩) (fun _ _ h => h)).keep ((Keeps.refl _ _).setCell (fun _ h9 => h9.2 rfl) _))
      clear e3 f3 u4
      generalize V0.setCell ⟨g, 3, none⟩ (.slice A3 items.length c3) = Y2 at *
      have hszY := HY2.out.size
      have hgx : g < Y2.heap.size := (Array.getElem?_eq_some_iff.1 HgB.out).1
      refine (C4.out _).mono ?_
      rintro _ _ ⟨rfl, rfl⟩
      cases hnum : numOf w4.data.toList with
      | none =>
        rw [numV_none hnum]
        have e4 := blk_cell HgB.out 4 rfl
        have f4 := blk_free HgB.out
        have Hno := Lib.hid (line_none4 Hl.out hnum)
        clear hnum
        go_upto_region 9 with fail
        have HgC := Lib.hid (show (Y2.setCell ⟨g, 4, none⟩ (.int .u64 0)).heap[g]? = some (.cells #[.int .i64 o0, .int .i64 o1, .string w2, .slice A3 items.length c3, .int .u64 0] 30) by simpa using blk_set HgB.out 4 (.int .u64 0))
        have HgR3 := Lib.hid (blk_far HgR2.out (show w.heap.size ≠ (⟨g, 4, none⟩ : Addr).block by simp; omega) (.int .u64 0))
        have HV := Lib.hid (show Ext w (Y2.setCell ⟨g, 4, none⟩ (.int .u64 0)) from Keeps.setCell HY2.out (fun h9 => by simp at h9; omega) _)
        clear e4 f4
        generalize Y2.setCell ⟨g, 4, none⟩ (.int .u64 0) = V at *
        have c0 := blk_cell HgC.out 0 rfl
        have c1 := blk_cell HgC.out 1 rfl
        have c2 := blk_cell HgC.out 2 rfl
        have c3' := blk_cell HgC.out 3 rfl
        have c4 := blk_cell HgC.out 4 rfl
        have z0 := blk_cell HgR3.out 0 rfl
        have z1 := blk_cell HgR3.out 1 rfl
        have z2 := blk_cell HgR3.out 2 rfl
        have z3 := blk_cell HgR3.out 3 rfl
        have z4 := blk_cell HgR3.out 4 rfl
        have fz := blk_free HgR3.out
        go_region_with fail
        all_goals
          go_wp2_with fail
          refine bodyPost_ret (v := .tuple #[.agg #[.int .i64 o0, .int .i64 o1, .string w2, .slice A3 items.length c3, .int .u64 0], .bool false]) (by simp [results, Tryd.results42, go_sem, *]) rfl (.inl ⟨Hno.out, _, _, _, _, _, _, _, rfl, ?_⟩)
          have hx := HV.out
          repeat (first | with_reducible exact hx | with_reducible exact Keeps.refl _ _ | with_reducible refine Keeps.drew ?_ | with_reducible refine Keeps.drewN ?_ _ | with_reducible refine Keeps.alloc ?_ _ | with_reducible refine Keeps.setCell ?_ (by first | (intro h; simp at h; done) | (intro _; simp; done) | (intro _; simp; omega) | (intro h; simp at h; omega)) _)
      | some u =>
        rw [numV_some hnum]
        have e4 := blk_cell HgB.out 4 rfl
        have f4 := blk_free HgB.out
        have Hnum := Lib.hid hnum
        clear hnum
        go_upto_region 9 with fail
        have HgC := Lib.hid (show (Y2.setCell ⟨g, 4, none⟩ (.int .u64 (u : Int))).heap[g]? = some (.cells #[.int .i64 o0, .int .i64 o1, .string w2, .slice A3 items.length c3, .int .u64 (u : Int)] 30) by simpa using blk_set HgB.out 4 (.int .u64 (u : Int)))
        have HgR3 := Lib.hid (blk_far HgR2.out (show w.heap.size ≠ (⟨g, 4, none⟩ : Addr).block by simp; omega) (.int .u64 (u : Int)))
        have HV := Lib.hid (show Ext w (Y2.setCell ⟨g, 4, none⟩ (.int .u64 (u : Int))) from Keeps.setCell HY2.out (fun h9 => by simp at h9; omega) _)
        have HsV := Lib.hid (show Sl strR (fun k => w.heap.size ≤ k ∧ k ≠ w.heap.size) (Y2.setCell ⟨g, 4, none⟩ (.int .u64 (u : Int))) A3 items.length items from (HsB.out.keep (w' := Y2.setCell ⟨g, 4, none⟩ (.int .u64 (u : Int))) ((Keeps.refl _ _).setCell (fun _ h9 => h9.2 rfl) _)).mono (fun k _ h9 => h9.1))
        clear e4 f4
        generalize Y2.setCell ⟨g, 4, none⟩ (.int .u64 (u : Int)) = V at *
        have c0 := blk_cell HgC.out 0 rfl
        have c1 := blk_cell HgC.out 1 rfl
        have c2 := blk_cell HgC.out 2 rfl
        have c3' := blk_cell HgC.out 3 rfl
        have c4 := blk_cell HgC.out 4 rfl
        have hV := HV.out.size
        have hwV : w.heap.size < V.heap.size := (Array.getElem?_eq_some_iff.1 HgR3.out).1
        have hgV : g < V.heap.size := (Array.getElem?_eq_some_iff.1 HgC.out).1
        obtain ⟨B, hB⟩ : ∃ B, B = mayE ⟨o0, o1, w2, items, (u : Int)⟩ := ⟨_, rfl⟩
        have CM := Lib.hid (fun (W : World) (hx : Ext V W) => show Calls Tryd.prog 11 #[.agg #[.int .i64 o0, .int .i64 o1, .string w2, .slice A3 items.length c3, .int .u64 (u : Int)]] W (fun r w' => r = .returned (.bool B) ∧ Ext W w') by rw [hB]; exact ref_May ⟨o0, o1, w2, items, (u : Int)⟩ A3 c3 _ W (HsV.out.ext hx) Hm2.out Hmi.out)
        have HB := Lib.hid hB
        clear hB
        go_cut [3] (fun s3 wc => s3 = .bool B ∧ wc.heap[w.heap.size]? = some (.cells #[.int .i64 o0, .int .i64 o1, .string w2, .slice A3 items.length c3, .int .u64 (u : Int)] 30) ∧ Keeps (fun k => k ≠ w.heap.size) V wc)
        case first =>
          go_region_with (go_at_call 11; ((with_reducible refine (CM.out _ (by repeat (first | with_reducible exact Keeps.refl _ _ | with_reducible refine Keeps.drew ?_ | with_reducible refine Keeps.drewN ?_ _ | with_reducible refine Keeps.alloc ?_ _))).mono ?_); rintro _ w5 ⟨rfl, hx5⟩; have gR5 := hx5.blk (g := w.heap.size) (by exact HgR3.out); have gC5 := hx5.blk (g := g) (by exact HgC.out); have x0 := blk_cell gR5 0 rfl; have x1 := blk_cell gR5 1 rfl; have x2 := blk_cell gR5 2 rfl; have x3 := blk_cell gR5 3 rfl; have x4 := blk_cell gR5 4 rfl; have fx := blk_free gR5; have y0 := blk_cell gC5 0 rfl; have y1 := blk_cell gC5 1 rfl; have y2 := blk_cell gC5 2 rfl; have y3 := blk_cell gC5 3 rfl; have y4 := blk_cell gC5 4 rfl))
          all_goals
            go_wp2_with fail
            go_meet
            refine ⟨rfl, by simpa using blk_set (blk_set (blk_set (blk_set (blk_set gR5 0 (.int .i64 o0)) 1 (.int .i64 o1)) 2 (.string w2)) 3 (.slice A3 items.length c3)) 4 (.int .u64 (u : Int)), ?_⟩
            have hx6 : Keeps (fun k => k ≠ w.heap.size) V w5 := Ext.keeps (Keeps.trans (Keeps.drew (Keeps.refl _ _)) hx5) _
            repeat (first | with_reducible exact hx6 | with_reducible exact Keeps.refl _ _ | with_reducible refine Keeps.drew ?_ | with_reducible refine Keeps.drewN ?_ _ | with_reducible refine Keeps.alloc ?_ _ | with_reducible refine Keeps.setCell ?_ (by first | (intro h; simp at h; done) | (intro _; simp; done) | (intro _; simp; omega) | (intro h; simp at h; omega)) _)
        case rest =>
          obtain ⟨hs3, hgc, hkc⟩ := hcut
          subst hs3
          have r0 := blk_cell hgc 0 rfl
          have r1 := blk_cell hgc 1 rfl
          have r2 := blk_cell hgc 2 rfl
          have r3 := blk_cell hgc 3 rfl
          have r4 := blk_cell hgc 4 rfl
          have HxF := Lib.hid (show Ext w wc from Keeps.then_ HV.out hkc (fun k hk _ => by omega))
          have HsF := Lib.hid ((HsV.out.keep (hkc.mono (fun k _ h9 => h9.2))).mono (ok' := fun k => w.heap.size ≤ k) (fun k _ h9 => h9.1))
          clear hgc hkc
          go_wp2_with fail
          refine bodyPost_ret (v := .tuple #[.agg #[.int .i64 o0, .int .i64 o1, .string w2, .slice A3 items.length c3, .int .u64 (u : Int)], .bool B]) (by simp [results, Tryd.results42, go_sem, r0, r1, r2, r3, r4]) rfl ?_
          have hE : refW w0.data.toList w1.data.toList w2.data.toList w3.data.toList u = ⟨o0, o1, w2, items, (u : Int)⟩ := by
            unfold refW
            rw [← Ho.out.1, ← Ho.out.2, bts_of, Hit.out]
          cases hBB : B
          · left
            refine ⟨line_no Hl.out Hnum.out (by rw [hE, ← HB.out, hBB]), _, _, _, _, _, _, _, rfl, HxF.out⟩
          · right
            refine ⟨⟨o0, o1, w2, items, (u : Int)⟩, by rw [← hE]; exact line_yes Hl.out Hnum.out (by rw [hE, ← HB.out, hBB]), A3, c3, rfl, Hcap.out, HsF.out, HxF.out⟩
    · have hd2 : (w3.toList != [46]) = false := by rw [bne, hd']; rfl
      have hi2 : items = [] := by rw [hit]; unfold itemsP; rw [hd]; rfl
      subst hi2
      clear hd hit
      go_wp2_with fail
      obtain ⟨A3, hA3⟩ : ∃ A : Option Addr, A = none := ⟨_, rfl⟩
      obtain ⟨c3, hc3⟩ : ∃ c : Nat, c = 0 := ⟨_, rfl⟩
      obtain ⟨items, hitems⟩ : ∃ l : List ByteArray, l = [] := ⟨_, rfl⟩
      have Hcap := Lib.hid (show items.length ≤ c3 by rw [hitems]; exact Nat.zero_le _)
      have HgB := Lib.hid (show Y.heap[g]? = some (.cells #[.int .i64 o0, .int .i64 o1, .string w2, .slice A3 items.length c3, .int .u64 0] 30) by rw [hA3, hc3, hitems]; exact Hgc.out)
      have HgR2 := HgR1
      have HY2 := HY
      have HsB := Lib.hid (show Sl strR (fun k => (w.heap.size ≤ k ∧ k ≠ w.heap.size) ∧ k ≠ g) Y A3 items.length items by rw [hitems]; exact Sl.nil_)
      rw [← hitems] at Hit Hmi
      clear hA3 hc3 hitems t3 t4
      generalize Y = Y2 at *
      have hszY := HY2.out.size
      have hgx : g < Y2.heap.size := (Array.getElem?_eq_some_iff.1 HgB.out).1
      refine (C4.out _).mono ?_
      rintro _ _ ⟨rfl, rfl⟩
      cases hnum : numOf w4.data.toList with
      | none =>
        rw [numV_none hnum]
        have e4 := blk_cell HgB.out 4 rfl
        have f4 := blk_free HgB.out
        have Hno := Lib.hid (line_none4 Hl.out hnum)
        clear hnum
        go_upto_region 9 with fail
        have HgC := Lib.hid (show (Y2.setCell ⟨g, 4, none⟩ (.int .u64 0)).heap[g]? = some (.cells #[.int .i64 o0, .int .i64 o1, .string w2, .slice A3 items.length c3, .int .u64 0] 30) by simpa using blk_set HgB.out 4 (.int .u64 0))
        have HgR3 := Lib.hid (blk_far HgR2.out (show w.heap.size ≠ (⟨g, 4, none⟩ : Addr).block by simp; omega) (.int .u64 0))
        have HV := Lib.hid (show Ext w (Y2.setCell ⟨g, 4, none⟩ (.int .u64 0)) from Keeps.setCell HY2.out (fun h9 => by simp at h9; omega) _)
        clear e4 f4
        generalize Y2.setCell ⟨g, 4, none⟩ (.int .u64 0) = V at *
        have c0 := blk_cell HgC.out 0 rfl
        have c1 := blk_cell HgC.out 1 rfl
        have c2 := blk_cell HgC.out 2 rfl
        have c3' := blk_cell HgC.out 3 rfl
        have c4 := blk_cell HgC.out 4 rfl
        have z0 := blk_cell HgR3.out 0 rfl
        have z1 := blk_cell HgR3.out 1 rfl
        have z2 := blk_cell HgR3.out 2 rfl
        have z3 := blk_cell HgR3.out 3 rfl
        have z4 := blk_cell HgR3.out 4 rfl
        have fz := blk_free HgR3.out
        go_region_with fail
        all_goals
          go_wp2_with fail
          refine bodyPost_ret (v := .tuple #[.agg #[.int .i64 o0, .int .i64 o1, .string w2, .slice A3 items.length c3, .int .u64 0], .bool false]) (by simp [results, Tryd.results42, go_sem, *]) rfl (.inl ⟨Hno.out, _, _, _, _, _, _, _, rfl, ?_⟩)
          have hx := HV.out
          repeat (first | with_reducible exact hx | with_reducible exact Keeps.refl _ _ | with_reducible refine Keeps.drew ?_ | with_reducible refine Keeps.drewN ?_ _ | with_reducible refine Keeps.alloc ?_ _ | with_reducible refine Keeps.setCell ?_ (by first | (intro h; simp at h; done) | (intro _; simp; done) | (intro _; simp; omega) | (intro h; simp at h; omega)) _)
      | some u =>
        rw [numV_some hnum]
        have e4 := blk_cell HgB.out 4 rfl
        have f4 := blk_free HgB.out
        have Hnum := Lib.hid hnum
        clear hnum
        go_upto_region 9 with fail
        have HgC := Lib.hid (show (Y2.setCell ⟨g, 4, none⟩ (.int .u64 (u : Int))).heap[g]? = some (.cells #[.int .i64 o0, .int .i64 o1, .string w2, .slice A3 items.length c3, .int .u64 (u : Int)] 30) by simpa using blk_set HgB.out 4 (.int .u64 (u : Int)))
        have HgR3 := Lib.hid (blk_far HgR2.out (show w.heap.size ≠ (⟨g, 4, none⟩ : Addr).block by simp; omega) (.int .u64 (u : Int)))
        have HV := Lib.hid (show Ext w (Y2.setCell ⟨g, 4, none⟩ (.int .u64 (u : Int))) from Keeps.setCell HY2.out (fun h9 => by simp at h9; omega) _)
        have HsV := Lib.hid (show Sl strR (fun k => w.heap.size ≤ k ∧ k ≠ w.heap.size) (Y2.setCell ⟨g, 4, none⟩ (.int .u64 (u : Int))) A3 items.length items from (HsB.out.keep (w' := Y2.setCell ⟨g, 4, none⟩ (.int .u64 (u : Int))) ((Keeps.refl _ _).setCell (fun _ h9 => h9.2 rfl) _)).mono (fun k _ h9 => h9.1))
        clear e4 f4
        generalize Y2.setCell ⟨g, 4, none⟩ (.int .u64 (u : Int)) = V at *
        have c0 := blk_cell HgC.out 0 rfl
        have c1 := blk_cell HgC.out 1 rfl
        have c2 := blk_cell HgC.out 2 rfl
        have c3' := blk_cell HgC.out 3 rfl
        have c4 := blk_cell HgC.out 4 rfl
        have hV := HV.out.size
        have hwV : w.heap.size < V.heap.size := (Array.getElem?_eq_some_iff.1 HgR3.out).1
        have hgV : g < V.heap.size := (Array.getElem?_eq_some_iff.1 HgC.out).1
        obtain ⟨B, hB⟩ : ∃ B, B = mayE ⟨o0, o1, w2, items, (u : Int)⟩ := ⟨_, rfl⟩
        have CM := Lib.hid (fun (W : World) (hx : Ext V W) => show Calls Tryd.prog 11 #[.agg #[.int .i64 o0, .int .i64 o1, .string w2, .slice A3 items.length c3, .int .u64 (u : Int)]] W (fun r w' => r = .returned (.bool B) ∧ Ext W w') by rw [hB]; exact ref_May ⟨o0, o1, w2, items, (u : Int)⟩ A3 c3 _ W (HsV.out.ext hx) Hm2.out Hmi.out)
        have HB := Lib.hid hB
        clear hB
        go_cut [3] (fun s3 wc => s3 = .bool B ∧ wc.heap[w.heap.size]? = some (.cells #[.int .i64 o0, .int .i64 o1, .string w2, .slice A3 items.length c3, .int .u64 (u : Int)] 30) ∧ Keeps (fun k => k ≠ w.heap.size) V wc)
        case first =>
          go_region_with (go_at_call 11; ((with_reducible refine (CM.out _ (by repeat (first | with_reducible exact Keeps.refl _ _ | with_reducible refine Keeps.drew ?_ | with_reducible refine Keeps.drewN ?_ _ | with_reducible refine Keeps.alloc ?_ _))).mono ?_); rintro _ w5 ⟨rfl, hx5⟩; have gR5 := hx5.blk (g := w.heap.size) (by exact HgR3.out); have gC5 := hx5.blk (g := g) (by exact HgC.out); have x0 := blk_cell gR5 0 rfl; have x1 := blk_cell gR5 1 rfl; have x2 := blk_cell gR5 2 rfl; have x3 := blk_cell gR5 3 rfl; have x4 := blk_cell gR5 4 rfl; have fx := blk_free gR5; have y0 := blk_cell gC5 0 rfl; have y1 := blk_cell gC5 1 rfl; have y2 := blk_cell gC5 2 rfl; have y3 := blk_cell gC5 3 rfl; have y4 := blk_cell gC5 4 rfl))
          all_goals
            go_wp2_with fail
            go_meet
            refine ⟨rfl, by simpa using blk_set (blk_set (blk_set (blk_set (blk_set gR5 0 (.int .i64 o0)) 1 (.int .i64 o1)) 2 (.string w2)) 3 (.slice A3 items.length c3)) 4 (.int .u64 (u : Int)), ?_⟩
            have hx6 : Keeps (fun k => k ≠ w.heap.size) V w5 := Ext.keeps (Keeps.trans (Keeps.drew (Keeps.refl _ _)) hx5) _
            repeat (first | with_reducible exact hx6 | with_reducible exact Keeps.refl _ _ | with_reducible refine Keeps.drew ?_ | with_reducible refine Keeps.drewN ?_ _ | with_reducible refine Keeps.alloc ?_ _ | with_reducible refine Keeps.setCell ?_ (by first | (intro h; simp at h; done) | (intro _; simp; done) | (intro _; simp; omega) | (intro h; simp at h; omega)) _)
        case rest =>
          obtain ⟨hs3, hgc, hkc⟩ := hcut
          subst hs3
          have r0 := blk_cell hgc 0 rfl
          have r1 := blk_cell hgc 1 rfl
          have r2 := blk_cell hgc 2 rfl
          have r3 := blk_cell hgc 3 rfl
          have r4 := blk_cell hgc 4 rfl
          have HxF := Lib.hid (show Ext w wc from Keeps.then_ HV.out hkc (fun k hk _ => by omega))
          have HsF := Lib.hid ((HsV.out.keep (hkc.mono (fun k _ h9 => h9.2))).mono (ok' := fun k => w.heap.size ≤ k) (fun k _ h9 => h9.1))
          clear hgc hkc
          go_wp2_with fail
          refine bodyPost_ret (v := .tuple #[.agg #[.int .i64 o0, .int .i64 o1, .string w2, .slice A3 items.length c3, .int .u64 (u : Int)], .bool B]) (by simp [results, Tryd.results42, go_sem, r0, r1, r2, r3, r4]) rfl ?_
          have hE : refW w0.data.toList w1.data.toList w2.data.toList w3.data.toList u = ⟨o0, o1, w2, items, (u : Int)⟩ := by
            unfold refW
            rw [← Ho.out.1, ← Ho.out.2, bts_of, Hit.out]
          cases hBB : B
          · left
            refine ⟨line_no Hl.out Hnum.out (by rw [hE, ← HB.out, hBB]), _, _, _, _, _, _, _, rfl, HxF.out⟩
          · right
            refine ⟨⟨o0, o1, w2, items, (u : Int)⟩, by rw [← hE]; exact line_yes Hl.out Hnum.out (by rw [hE, ← HB.out, hBB]), A3, c3, rfl, Hcap.out, HsF.out, HxF.out⟩
end Go.Proofs.YtkfcbafmefdhmaaDoor
