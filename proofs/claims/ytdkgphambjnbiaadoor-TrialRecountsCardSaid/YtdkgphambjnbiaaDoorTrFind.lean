/-
  What is proved here: a book's trial of a name. Conditions: at most a thousand trials.
-/
import Derived.Test.YtdkgphambjnbiaaDoorTrNew2
namespace Go.Proofs.YtdkgphambjnbiaaDoor
open Go Go.RowKit Go.Proofs
attribute [local go_sem ↓] Go.wp_at_zero Go.wp_at_succ

theorem BookX.ext {w w' : World} {b m lim : Nat} {v : Value} {outer : List (ByteArray × Nat)} {ts : List Tr} {xs : ByteArray → List (ByteArray × Int)} (h : BookX w b m lim v outer ts xs) (hx : Ext w w') : BookX w' b m lim v outer ts xs :=
  ⟨hx.blk h.blk, h.own.ext hx, h.row, h.mb, h.bl, Nat.le_trans h.lw hx.size, h.mp.ext hx, h.far, h.nd, fun p hp => (h.inn p hp).ext hx, h.none⟩
theorem BookAt.ext {w w' : World} {b : Nat} {ts : List Tr} {xs : ByteArray → List (ByteArray × Int)} (h : BookAt w b ts xs) (hx : Ext w w') : BookAt w' b ts xs := by
  obtain ⟨m, lim, v, outer, h⟩ := h
  exact ⟨m, lim, v, outer, h.ext hx⟩
theorem idxT_some {p : Tr → Bool} {l : List Tr} {i : Nat} (h : l.findIdx? p = some i) : idxT p l = i := by simp [idxT, h]
theorem idxT_no {p : Tr → Bool} {l : List Tr} (h : l.findIdx? p = none) : idxT p l = -1 := by simp [idxT, h]

set_option maxRecDepth 100000 in
set_option maxHeartbeats 2000000 in
theorem bk_find_no (b m lim : Nat) (v : Value) (outer : List (ByteArray × Nat)) (ts : List Tr) (xs : ByteArray → List (ByteArray × Int)) (name : ByteArray) (w : World) (h : BookX w b m lim v outer ts xs) (hn : ts.length ≤ 1000) (hi : ts.findIdx? (fun o => o.name == name) = none) :
    Calls Tryd.prog 39 #[.pointer (some ⟨b, 0, none⟩), .string name] w fun r w' => r = .returned (.tuple #[.agg #[.string ⟨#[]⟩, .string ⟨#[]⟩, .int .i64 0, .int .i64 0, .slice none 0 0], .bool false]) ∧ Ext w w' := by
  obtain ⟨A0, c0, rfl⟩ := h.own.form
  have q0 := blk_cell h.blk 0 rfl
  have hbw : b < w.heap.size := (Array.getElem?_eq_some_iff.1 h.blk).1
  have Hs := Lib.hid (show Sl trR (fun _ => True) w A0 ts.length ts from h.own.sl (fun _ _ _ _ => trivial) (fun _ _ _ => trivial))
  have Hi := Lib.hid (idxT_no hi)
  clear h hi
  go_enter Tryd.func39, Tryd.ntmps39
  go_wp2_with (go_at_call 51; refine (idx_find (fun o => o.name == name) w.heap.size A0 ts.length c0 ts (fun _ => True) _ (Hs.out.ext (by repeat (first | with_reducible exact Keeps.refl _ _ | with_reducible refine Keeps.drew ?_ | with_reducible refine Keeps.drewN ?_ _ | with_reducible refine Keeps.alloc ?_ _))) (by omega) (fun W o A c hx => find_fn o name A c w.heap.size W (hx.blk (blk_old (blk_new _ _) _)))).mono ?_; rw [Hi.out]; rintro _ w1 ⟨rfl, hx1⟩; have g1 := hx1.blk (blk_new' _ _ (w.heap.size + 1) (by simp)); have z0 := blk_cell g1 0 rfl; have z1 := blk_cell g1 1 rfl; have z2 := blk_cell g1 2 rfl; have z3 := blk_cell g1 3 rfl; have z4 := blk_cell g1 4 rfl; have fz := blk_free g1; have Hx1 := Lib.hid (Keeps.trans (((Keeps.refl (fun _ => True) w).alloc _).alloc _) hx1); clear hx1 g1)
  refine bodyPost_ret (v := .tuple #[.agg #[.string ⟨#[]⟩, .string ⟨#[]⟩, .int .i64 0, .int .i64 0, .slice none 0 0], .bool false]) (by simp [results, Tryd.results39, go_sem, z0, z1, z2, z3, z4]) rfl ⟨rfl, ?_⟩
  repeat (first | with_reducible exact Hx1.out | with_reducible exact Keeps.refl _ _ | with_reducible refine Keeps.drew ?_ | with_reducible refine Keeps.drewN ?_ _ | with_reducible refine Keeps.alloc ?_ _ | with_reducible refine Keeps.setCell ?_ (by first | (intro h; simp at h; done) | (intro _; simp; done) | (intro _; simp; omega) | (intro h; simp at h; omega)) _)

set_option maxRecDepth 100000 in
set_option maxHeartbeats 2000000 in
theorem bk_find_yes (b m lim : Nat) (v : Value) (outer : List (ByteArray × Nat)) (ts : List Tr) (xs : ByteArray → List (ByteArray × Int)) (name : ByteArray) (w : World) (h : BookX w b m lim v outer ts xs) (hn : ts.length ≤ 1000) (i : Nat) (t : Tr) (hi : ts.findIdx? (fun o => o.name == name) = some i) (ht : ts[i]? = some t) :
    Calls Tryd.prog 39 #[.pointer (some ⟨b, 0, none⟩), .string name] w fun r w' => ∃ A c, r = .returned (.tuple #[.agg #[.string t.name, .string t.layer, .int .i64 t.lo, .int .i64 t.hi, .slice A t.arms.length c], .bool true]) ∧ t.arms.length ≤ c ∧ Sl strR (fun k => b < k ∧ k < lim) w A t.arms.length t.arms ∧ Ext w w' := by
  obtain ⟨A0, c0, rfl⟩ := h.own.form
  have q0 := blk_cell h.blk 0 rfl
  have hbw : b < w.heap.size := (Array.getElem?_eq_some_iff.1 h.blk).1
  have hs := h.own.sl (ok' := fun k => b < k ∧ k < lim) (fun g hg _ e => ⟨hg, h.row g e⟩) (fun _ _ h => h)
  have hil : i < ts.length := (List.getElem?_eq_some_iff.1 ht).1
  have Hs := Lib.hid hs
  have Hi := Lib.hid (idxT_some hi)
  have Hb := Lib.hid h.blk
  obtain ⟨b', o', t', A', c', rfl, hb', ho, ht', hc', hs', d0, d1, d2, d3, d4⟩ := hs.tr hil
  obtain rfl : t = t' := Option.some.inj (ht.symm.trans ht')
  have Hs' := Lib.hid hs'
  have i0 : (0 : Int) ≤ (i : Int) := by omega
  have i1 : (i : Int) < (ts.length : Int) := by omega
  have Hc' := Lib.hid hc'
  clear h hi hs hs' ht ht'
  go_enter Tryd.func39, Tryd.ntmps39
  go_wp2_with (go_at_call 51; refine (idx_find (fun o => o.name == name) w.heap.size _ ts.length c0 ts _ _ (Hs.out.ext (by repeat (first | with_reducible exact Keeps.refl _ _ | with_reducible refine Keeps.drew ?_ | with_reducible refine Keeps.drewN ?_ _ | with_reducible refine Keeps.alloc ?_ _))) (by omega) (fun W o A c hx => find_fn o name A c w.heap.size W (hx.blk (blk_old (blk_new _ _) _)))).mono ?_; rw [Hi.out]; rintro _ w1 ⟨rfl, hx1⟩; have g1 := hx1.blk (blk_new' _ _ (w.heap.size + 1) (by simp)); have z0 := blk_cell g1 0 rfl; have z1 := blk_cell g1 1 rfl; have z2 := blk_cell g1 2 rfl; have z3 := blk_cell g1 3 rfl; have z4 := blk_cell g1 4 rfl; have fz := blk_free g1; have hx := Keeps.trans (((Keeps.refl (fun _ => True) w).alloc _).alloc _) hx1; have y0 := blk_cell (Ext.blk hx Hb.out) 0 rfl; have e0 := (hx.cell (p := ⟨b', o' + i * 5, none⟩) hb' trivial).trans d0; have e1 := (hx.cell (p := ⟨b', o' + i * 5 + 1, none⟩) hb' trivial).trans d1; have e2 := (hx.cell (p := ⟨b', o' + i * 5 + 2, none⟩) hb' trivial).trans d2; have e3 := (hx.cell (p := ⟨b', o' + i * 5 + 3, none⟩) hb' trivial).trans d3; have e4 := (hx.cell (p := ⟨b', o' + i * 5 + 4, none⟩) hb' trivial).trans d4; have Hx1 := Lib.hid hx; clear hx1 g1 hx)
  refine bodyPost_ret (v := .tuple #[.agg #[.string t.name, .string t.layer, .int .i64 t.lo, .int .i64 t.hi, .slice A' t.arms.length c'], .bool true]) (by simp [results, Tryd.results39, go_sem, z0, z1, z2, z3, z4]) rfl ⟨A', c', rfl, Hc'.out, Hs'.out, ?_⟩
  repeat (first | with_reducible exact Hx1.out | with_reducible exact Keeps.refl _ _ | with_reducible refine Keeps.drew ?_ | with_reducible refine Keeps.drewN ?_ _ | with_reducible refine Keeps.alloc ?_ _ | with_reducible refine Keeps.setCell ?_ (by first | (intro h; simp at h; done) | (intro _; simp; done) | (intro _; simp; omega) | (intro h; simp at h; omega)) _)
end Go.Proofs.YtdkgphambjnbiaaDoor
