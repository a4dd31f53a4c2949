/-
  What is proved here: the program's Parse of a text is the plain function's event, or none. Conditions: texts of at most a million bytes; the library's variables, and the names of the kinds, hold what their text lays.
-/
import Derived.Test.YtmhkgfoimkonoaaDoorEvKin
import Derived.Test.YtmhkgfoimkonoaaDoorEvC
import Derived.Test.YtmhkgfoimkonoaaDoorEvEq
import Derived.Deep.DeepCutAuto
import Derived.ChangeKeysEq
namespace Go.Proofs.YtmhkgfoimkonoaaDoor
open Go Go.RowKit Go.Proofs
attribute [local go_sem ↓] Go.wp_at_zero Go.wp_at_succ
theorem Sl.strAt {ok : Nat → Prop} {w : World} {b o n : Nat} {l : List ByteArray} (h : Sl strR ok w (some ⟨b, o, none⟩) n l) {k : Nat} {s : ByteArray} (hk : l[k]? = some s) : w.cell? ⟨b, o + k, none⟩ = some (.string s) := by
  have hl : k < n := by rw [← h.1]; exact (List.getElem?_eq_some_iff.1 hk).1
  obtain ⟨b', o', e, _, _, hc⟩ := h.2 (by omega)
  injection e with e
  injection e with e1 e2 _
  subst e1 e2
  obtain ⟨xs, rfl, hx⟩ := hc k s hk
  have := hx 0 _ rfl
  simpa [strR] using this
def kindTo (s : ByteArray) : Nat → Int
  | 0 => -1
  | k + 1 => if kindsB.getD k ⟨#[]⟩ == s then (k : Int) else kindTo s k
def evP (w0 w1 w2 w3 w4 w5 w6 w7 : ByteArray) : Ev := ⟨undotB w0, digN w1, digN w2, kindTo w3 15, undotB w4, undotB w5, digN w6, undotB w7⟩
set_option maxRecDepth 100000 in
set_option maxHeartbeats 2000000 in
theorem ev_full (g b o c : Nat) (l : List ByteArray) (ok : Nat → Prop) (w : World) (j : Nat) (s : ByteArray) (hj : l[j]? = some s) (hj8 : j < 8) (hs : Sl strR ok w (some ⟨b, o, none⟩) 8 l) (hg : w.cell? ⟨g, 0, none⟩ = some (.slice (some ⟨b, o, none⟩) 8 c)) :
    Calls Tryd.prog 66 #[.int .i64 j, .pointer (some ⟨g, 0, none⟩)] w fun e w' => e = .returned (.string (undotB s)) ∧ w = w' := by
  have hc := hs.strAt hj
  have i0 : (0 : Int) ≤ (j : Int) := by omega
  have i1 : (j : Int) < 8 := by omega
  clear hs hj
  cases hn : (s.data.toList == [46]) <;> have hn' : (s.toList == [46]) = _ := (show (s.toList == [46]) = (s.data.toList == [46]) by rw [ByteArray.toList_eq]).trans hn
  · have Hd := Lib.hid (show undotB s = s by unfold undotB; rw [hn]; rfl)
    clear hn
    go_enter Tryd.func66, Tryd.ntmps66
    go_wp2_with fail
    go_ret
    exact ⟨by rw [Hd.out]; rfl, rfl⟩
  · have Hd := Lib.hid (show undotB s = ⟨#[]⟩ by unfold undotB; rw [hn]; rfl)
    clear hn
    go_enter Tryd.func66, Tryd.ntmps66
    go_wp2_with fail
    go_ret
    exact ⟨by rw [Hd.out]; rfl, rfl⟩
theorem run_index_arr {P : Program} (t e : TypeId) (n : Nat) (cs : Array Value) (k : Nat) (v : Value) (h : P.underlying t = some (.array n e)) (hp : P.plainKey e = true) (hk : k < n) (hv : cs[k]? = some v) (w : World) (hz : (sizeOf e).run P w = .ok 1 w) :
    (Instr.index t (.agg cs) (.int .i64 (k : Int))).run P w = .ok v w := by
  have hpt := run_part_plain (w := w) hp hv
  have hk2 : (0 : Int) ≤ (k : Int) ∧ (k : Int) < (n : Int) := ⟨by omega, by omega⟩
  simp [Instr.index, asIntOf, run_underlying h, hz, hpt, hk2]
  intro h9; omega
theorem beqB_false_iff {a b : ByteArray} : (a == b) = false ↔ a ≠ b := ⟨(fun h e => by rw [e, beqB_self] at h; cases h), beqB_false⟩
theorem undotB_size (s : ByteArray) : (undotB s).size ≤ s.size := by
  unfold undotB
  split
  · exact Nat.zero_le _
  · exact Nat.le_refl _
theorem idx_kinds (k : Nat) (nm : ByteArray) (h : kindsB[k]? = some nm) (w : World) : (Instr.index 82 (.agg #[.string (bts [115, 101, 101, 110]), .string (bts [111, 112, 101, 110, 101, 100]), .string (bts [102, 105, 110, 105, 115, 104, 101, 100]), .string (bts [98, 111, 117, 103, 104, 116]), .string (bts [114, 97, 116, 101, 100]), .string (bts [104, 105, 100, 100, 101, 110]), .string (bts [117, 110, 104, 105, 100, 100, 101, 110]), .string (bts [102, 111, 108, 108, 111, 119, 101, 100]), .string (bts [117, 110, 102, 111, 108, 108, 111, 119, 101, 100]), .string (bts [109, 117, 116, 101, 100]), .string (bts [117, 110, 109, 117, 116, 101, 100]), .string (bts [108, 105, 115, 116, 101, 100]), .string (bts [115, 116, 111, 99, 107, 101, 100]), .string (bts [100, 101, 108, 105, 115, 116, 101, 100]), .string (bts [102, 111, 114, 103, 111, 116, 116, 101, 110])]) (.int .i64 (k : Int))).run Tryd.prog w = .ok (.string nm) w := by
  refine run_index_arr _ 9 15 _ k _ Tryd.underlying82 (by kernel_rfl) (List.getElem?_eq_some_iff.1 h).1 ?_ w (by go_simp)
  show ((kindsB.map Value.string).toArray)[k]? = _
  simp [h]
theorem kinds_at {k : Nat} (h : k < 15) : kindsB[k]? = some (kindsB.getD k ⟨#[]⟩) := by
  have : k < kindsB.length := h
  rw [List.getD_eq_getElem?_getD, List.getElem?_eq_getElem this]; rfl
def ParPost (w : World) (e : Ev) (f : Int) (r : Ending) (w' : World) : Prop := r = .returned (.tuple #[.agg (evC e), .int .i64 f]) ∧ Ext w w'
def ev0 : Ev := ⟨⟨#[]⟩, 0, 0, 0, ⟨#[]⟩, ⟨#[]⟩, 0, ⟨#[]⟩⟩
set_option maxRecDepth 100000 in
set_option maxHeartbeats 4000000 in
theorem ev_Parse_len (s : ByteArray) (w : World) (hs : s.size ≤ 999999) (hv : Vars w) (hl : (partsL 32 s.data.toList).length ≠ 8) :
    Calls Tryd.prog 42 #[.string s] w (ParPost w ev0 2) := by
  have HS := Lib.hid (fun (W : World) (h : Mx W) => str_Split s 32 W hs h)
  have hln : ((partsL 32 s.data.toList).map bts).length = (partsL 32 s.data.toList).length := List.length_map ..
  obtain ⟨n, hn⟩ : ∃ n, n = ((partsL 32 s.data.toList).map bts).length := ⟨_, rfl⟩
  have HS' := Lib.hid (fun (W : World) (h : Mx W) => (HS.out W h).mono (R' := fun e w' => ∃ A c, e = .returned (.slice A n c) ∧ Ext W w') (fun _ _ ⟨A, c, h1, _, h3⟩ => ⟨A, c, by rw [hn]; exact h1, h3⟩))
  have h8 : n ≠ 8 := by rw [hn, hln]; exact hl
  have h8' : ((n : Int) != 8) = true := by simp; omega
  have Hv := Lib.hid hv
  have hn0 : n ≤ 1000000 := by
    have := parts_len 32 s.data.toList
    have h4 : s.data.toList.length = s.size := by simp
    omega
  unfold bts at HS'
  clear HS hln hn hl h8 hv
  go_enter Tryd.func42, Tryd.ntmps42
  go_wp2_with (go_at_call 65; refine (HS'.out _ (Hv.out.mx.ext ((Keeps.refl _ _).alloc _))).mono ?_; rintro _ w1 ⟨A, c, rfl, hx1⟩; have hg1 := hx1.blk (blk_new w _); have hgl : w.heap.size < w1.heap.size := (Array.getElem?_eq_some_iff.1 hg1).1; have z0 := blk_cell hg1 0 rfl; have z1 := blk_cell hg1 1 rfl; have z2 := blk_cell hg1 2 rfl; have z3 := blk_cell hg1 3 rfl; have z4 := blk_cell hg1 4 rfl; have z5 := blk_cell hg1 5 rfl; have z6 := blk_cell hg1 6 rfl; have z7 := blk_cell hg1 7 rfl; have fz := blk_free hg1; have Hx1 := Lib.hid (Keeps.trans ((Keeps.refl (fun _ => True) w).alloc _) hx1); clear hx1 hg1)
  refine bodyPost_ret (v := .tuple #[.agg #[.string ⟨#[]⟩, .int .i64 0, .int .i64 0, .int .i64 0, .string ⟨#[]⟩, .string ⟨#[]⟩, .int .i64 0, .string ⟨#[]⟩], .int .i64 2]) (by simp [results, Tryd.results42, go_sem, *]) rfl ⟨rfl, ?_⟩
  have hx := Hx1.out
  repeat (first | with_reducible exact hx | with_reducible exact Keeps.refl _ _ | with_reducible refine Keeps.drew ?_ | with_reducible refine Keeps.drewN ?_ _ | with_reducible refine Keeps.alloc ?_ _ | with_reducible refine Keeps.setCell ?_ (by first | (intro h; simp at h; done) | (intro _; simp; done) | (intro _; simp; omega) | (intro h; simp at h; omega)) _)
def parB (s w0 w1 w2 w3 w4 w5 w6 w7 : ByteArray) : Bool := digOk w1 && digOk w2 && digOk w6 && mayE (evP w0 w1 w2 w3 w4 w5 w6 w7) && (fmtE (evP w0 w1 w2 w3 w4 w5 w6 w7) == s)
def parP (s w0 w1 w2 w3 w4 w5 w6 w7 : ByteArray) : Ev × Int := if parB s w0 w1 w2 w3 w4 w5 w6 w7 then (evP w0 w1 w2 w3 w4 w5 w6 w7, 0) else (ev0, 2)
def fmtF (e : Ev) : ByteArray := if mayE e then fmtE e else ⟨#[]⟩
theorem ev_Format (e : Ev) (w : World) (hsm : EvSm e) (hv : Vars w) :
    Calls Tryd.prog 29 #[.agg #[.string e.src, .int .i64 e.num, .int .i64 e.tick, .int .i64 e.kind, .string e.person, .string e.item, .int .i64 e.value, .string e.text]] w fun r w' => r = .returned (.string (fmtF e)) ∧ Ext w w' := by
  unfold fmtF
  cases hm : mayE e
  · rw [if_neg (by decide)]; exact ev_Format_no _ w hsm hv.mx hm
  · rw [if_pos rfl]; exact ev_Format_yes _ w hsm hv hm
theorem parP_of {s w0 w1 w2 w3 w4 w5 w6 w7 : ByteArray} {E : Ev} (hE : evP w0 w1 w2 w3 w4 w5 w6 w7 = E) (h1 : digOk w1 = true) (h2 : digOk w2 = true) (h6 : digOk w6 = true) (hs : (⟨#[]⟩ : ByteArray) ≠ s) : parP s w0 w1 w2 w3 w4 w5 w6 w7 = if fmtF E == s then (E, 0) else (ev0, 2) := by
  unfold parP parB fmtF
  rw [h1, h2, h6, hE]
  generalize fmtE E = G
  cases mayE E
  · have := beqB_false hs
    simp [this]
  · simp
structure PaAt (w wS : World) (b o c : Nat) (w3 U0 : ByteArray) (N1 N2 K : Int) (U4 U5 : ByteArray) (N6 : Int) (U7 : ByteArray) (O1 O2 O6 : Bool) (wr : World) : Prop where
  g6 : wr.heap[wS.heap.size + 1]? = some (.cells #[.string U0, .int .i64 N1, .int .i64 N2, .int .i64 K, .string U4, .string U5, .int .i64 N6, .string U7] 30)
  g7 : wr.heap[wS.heap.size + 1 + 1]? = some (.cells #[.bool O1, .bool O2, .bool O6] 94)
  g4 : wr.heap[wS.heap.size]? = some (.cells #[.slice (some ⟨b, o, none⟩) 8 c] 45)
  gR : wr.heap[w.heap.size]? = some (.cells #[.string ⟨#[]⟩, .int .i64 0, .int .i64 0, .int .i64 0, .string ⟨#[]⟩, .string ⟨#[]⟩, .int .i64 0, .string ⟨#[]⟩] 30)
  s3 : wr.cell? ⟨b, o + 3, none⟩ = some (.string w3)
  ext : Ext w wr
set_option maxRecDepth 100000 in
set_option maxHeartbeats 8000000 in
theorem ev_Parse_8 (s : ByteArray) (w0 w1 w2 w3 w4 w5 w6 w7 : ByteArray) (w : World) (hs : s.size ≤ 999999) (hv : Vars w) (hl : (partsL 32 s.data.toList).map bts = [w0, w1, w2, w3, w4, w5, w6, w7]) (hsz : ∀ x ∈ [w0, w1, w2, w3, w4, w5, w6, w7], x.size ≤ 999999) :
    Calls Tryd.prog 42 #[.string s] w (ParPost w (parP s w0 w1 w2 w3 w4 w5 w6 w7).1 (parP s w0 w1 w2 w3 w4 w5 w6 w7).2) := by
  have HS' := Lib.hid (fun (W : World) (h : Mx W) => (str_Split s 32 W hs h).mono (R' := fun e w' => ∃ b o c, e = .returned (.slice (some ⟨b, o, none⟩) 8 c) ∧ Ext W w' ∧ Sl strR (fun _ => True) w' (some ⟨b, o, none⟩) 8 [w0, w1, w2, w3, w4, w5, w6, w7] ∧ b < w'.heap.size ∧ W.heap.size ≤ b) (fun e w' ⟨A, c, h1, h2, h3⟩ => by
    rw [hl] at h1 h2
    have h4 := h2.sl (ok' := fun _ => True) (fun _ _ _ _ => trivial) (fun _ _ _ => trivial)
    obtain ⟨b, o, rfl, hb, _⟩ := h4.2 (by simp)
    exact ⟨b, o, c, h1, h3, h4, hb, (h2.lt b rfl).1⟩))
  unfold bts at HS'
  have Hv := Lib.hid hv
  have Hsz := Lib.hid hsz
  have Hsne := Lib.hid (show (⟨#[]⟩ : ByteArray) ≠ s from fun e => by rw [← e] at hl; have := congrArg List.length hl; simp [partsL] at this)
  clear hl hv hsz
  go_enter Tryd.func42, Tryd.ntmps42
  go_wp2_with fail
  refine (HS'.out _ (Hv.out.mx.ext ((Keeps.refl _ _).alloc _))).mono ?_
  rintro _ wS ⟨b, o, c, rfl, hx1, hsl, hb, hb0⟩
  have hg1 := hx1.blk (blk_new w _)
  have hgl : w.heap.size < wS.heap.size := (Array.getElem?_eq_some_iff.1 hg1).1
  have Hx1 := Lib.hid (Keeps.trans ((Keeps.refl (fun _ => True) w).alloc _) hx1)
  have Hg1 := Lib.hid hg1
  have Hsl := Lib.hid hsl
  have hn1 : b ≠ wS.heap.size := by omega
  have hn2 : b ≠ wS.heap.size + 1 := by omega
  have hn3 : b ≠ wS.heap.size + 1 + 1 := by omega
  have c1 := hsl.strAt (k := 1) rfl
  have c2 := hsl.strAt (k := 2) rfl
  have c3 := hsl.strAt (k := 3) rfl
  have c6 := hsl.strAt (k := 6) rfl
  clear hx1 hg1 hsl
  go_wp2_with fail
  obtain ⟨g4, g6, g7⟩ := three_new wS (.cells #[.slice (some ⟨b, o, none⟩) 8 c] 45) (.cells #[.string ⟨#[]⟩, .int .i64 0, .int .i64 0, .int .i64 0, .string ⟨#[]⟩, .string ⟨#[]⟩, .int .i64 0, .string ⟨#[]⟩] 30) (.cells #[.bool false, .bool false, .bool false] 94)
  have hxw0 : Ext wS (((wS.alloc (.cells #[.slice (some ⟨b, o, none⟩) 8 c] 45)).alloc (.cells #[.string ⟨#[]⟩, .int .i64 0, .int .i64 0, .int .i64 0, .string ⟨#[]⟩, .string ⟨#[]⟩, .int .i64 0, .string ⟨#[]⟩] 30)).alloc (.cells #[.bool false, .bool false, .bool false] 94)) := (((Keeps.refl _ _).alloc _).alloc _).alloc _
  generalize (((wS.alloc (.cells #[.slice (some ⟨b, o, none⟩) 8 c] 45)).alloc (.cells #[.string ⟨#[]⟩, .int .i64 0, .int .i64 0, .int .i64 0, .string ⟨#[]⟩, .string ⟨#[]⟩, .int .i64 0, .string ⟨#[]⟩] 30)).alloc (.cells #[.bool false, .bool false, .bool false] 94)) = X at *
  have HX := Lib.hid (show Ext w X from Keeps.trans Hx1.out hxw0)
  have HslX := Lib.hid (Hsl.out.ext hxw0)
  have gR := Ext.blk hxw0 Hg1.out
  have hbX : b < X.heap.size := Nat.lt_of_lt_of_le hb hxw0.size
  have s1 := HslX.out.strAt (k := 1) rfl
  have s2 := HslX.out.strAt (k := 2) rfl
  have s3 := HslX.out.strAt (k := 3) rfl
  have s6 := HslX.out.strAt (k := 6) rfl
  have z4 := blk_cell g4 0 rfl
  have d0 := blk_cell g6 0 rfl
  have d1 := blk_cell g6 1 rfl
  have d2 := blk_cell g6 2 rfl
  have d3 := blk_cell g6 3 rfl
  have d4 := blk_cell g6 4 rfl
  have d5 := blk_cell g6 5 rfl
  have d6 := blk_cell g6 6 rfl
  have d7 := blk_cell g6 7 rfl
  have f6 := blk_free g6
  have b0 := blk_cell g7 0 rfl
  have b1 := blk_cell g7 1 rfl
  have b2 := blk_cell g7 2 rfl
  have f7 := blk_free g7
  have kn0 := (Hv.out.kn.ext HX.out)
  have HgR := Lib.hid gR
  have Hg4 := Lib.hid g4
  have Hg6 := Lib.hid g6
  have Hg7 := Lib.hid g7
  have m1 : w1.size ≤ maxLen := by have := Hsz.out w1 (by simp); unfold maxLen; omega
  have m2 : w2.size ≤ maxLen := by have := Hsz.out w2 (by simp); unfold maxLen; omega
  have m6 : w6.size ≤ maxLen := by have := Hsz.out w6 (by simp); unfold maxLen; omega
  have k0 := kn0 0 _ rfl
  have k1 := kn0 1 _ rfl
  have k2 := kn0 2 _ rfl
  have k3 := kn0 3 _ rfl
  have k4 := kn0 4 _ rfl
  have k5 := kn0 5 _ rfl
  have k6 := kn0 6 _ rfl
  have k7 := kn0 7 _ rfl
  have k8 := kn0 8 _ rfl
  have k9 := kn0 9 _ rfl
  have k10 := kn0 10 _ rfl
  have k11 := kn0 11 _ rfl
  have k12 := kn0 12 _ rfl
  have k13 := kn0 13 _ rfl
  have k14 := kn0 14 _ rfl
  have gK : 0 < w.heap.size := cell_lt (Hv.out.kn 0 _ rfl)
  have hn5 : 0 ≠ wS.heap.size + 1 := by omega
  have hn6 : 0 ≠ wS.heap.size + 1 + 1 := by omega
  have hn7 : wS.heap.size ≠ wS.heap.size + 1 := by omega
  have hn8 : wS.heap.size ≠ wS.heap.size + 1 + 1 := by omega
  have hn9 : wS.heap.size + 1 ≠ wS.heap.size + 1 + 1 := by omega
  obtain ⟨U0, hU0⟩ : ∃ u, u = undotB w0 := ⟨_, rfl⟩
  obtain ⟨U4, hU4⟩ : ∃ u, u = undotB w4 := ⟨_, rfl⟩
  obtain ⟨U5, hU5⟩ : ∃ u, u = undotB w5 := ⟨_, rfl⟩
  obtain ⟨U7, hU7⟩ : ∃ u, u = undotB w7 := ⟨_, rfl⟩
  have F0 := Lib.hid (show Calls Tryd.prog 66 #[.int .i64 0, .pointer (some ⟨wS.heap.size, 0, none⟩)] X (fun e w' => e = .returned (.string U0) ∧ X = w') by rw [hU0]; exact ev_full _ b o c _ _ X 0 w0 rfl (by omega) HslX.out z4)
  have F4 := Lib.hid (show Calls Tryd.prog 66 #[.int .i64 4, .pointer (some ⟨wS.heap.size, 0, none⟩)] X (fun e w' => e = .returned (.string U4) ∧ X = w') by rw [hU4]; exact ev_full _ b o c _ _ X 4 w4 rfl (by omega) HslX.out z4)
  have F5 := Lib.hid (show Calls Tryd.prog 66 #[.int .i64 5, .pointer (some ⟨wS.heap.size, 0, none⟩)] X (fun e w' => e = .returned (.string U5) ∧ X = w') by rw [hU5]; exact ev_full _ b o c _ _ X 5 w5 rfl (by omega) HslX.out z4)
  have F7 := Lib.hid (show Calls Tryd.prog 66 #[.int .i64 7, .pointer (some ⟨wS.heap.size, 0, none⟩)] X (fun e w' => e = .returned (.string U7) ∧ X = w') by rw [hU7]; exact ev_full _ b o c _ _ X 7 w7 rfl (by omega) HslX.out z4)
  obtain ⟨N1, hN1⟩ : ∃ u, u = digN w1 := ⟨_, rfl⟩
  obtain ⟨N2, hN2⟩ : ∃ u, u = digN w2 := ⟨_, rfl⟩
  obtain ⟨N6, hN6⟩ : ∃ u, u = digN w6 := ⟨_, rfl⟩
  obtain ⟨O1, hO1⟩ : ∃ u, u = digOk w1 := ⟨_, rfl⟩
  obtain ⟨O2, hO2⟩ : ∃ u, u = digOk w2 := ⟨_, rfl⟩
  obtain ⟨O6, hO6⟩ : ∃ u, u = digOk w6 := ⟨_, rfl⟩
  have D1 := Lib.hid (fun W : World => show Calls Tryd.prog 67 #[.string w1] W (fun e w' => e = .returned (.tuple #[.int .i64 N1, .bool O1]) ∧ W = w') by rw [hN1, hO1]; exact ev_digits w1 W m1)
  have D2 := Lib.hid (fun W : World => show Calls Tryd.prog 67 #[.string w2] W (fun e w' => e = .returned (.tuple #[.int .i64 N2, .bool O2]) ∧ W = w') by rw [hN2, hO2]; exact ev_digits w2 W m2)
  have D6 := Lib.hid (fun W : World => show Calls Tryd.prog 67 #[.string w6] W (fun e w' => e = .returned (.tuple #[.int .i64 N6, .bool O6]) ∧ W = w') by rw [hN6, hO6]; exact ev_digits w6 W m6)
  have HE := Lib.hid (show ∀ k, (⟨U0, N1, N2, k, U4, U5, N6, U7⟩ : Ev) = ⟨undotB w0, digN w1, digN w2, k, undotB w4, undotB w5, digN w6, undotB w7⟩ from fun k => by rw [hU0, hU4, hU5, hU7, hN1, hN2, hN6])
  have HO := Lib.hid (And.intro hO1 (And.intro hO2 hO6))
  clear kn0 hU0 hU4 hU5 hU7 hN1 hN2 hN6 hO1 hO2 hO6 c1 c2 c3 c6 gR hxw0 g4 g6 g7
  go_wp2_with (first
    | (go_at_call 66; (with_reducible refine F0.out.mono ?_); rintro _ _ ⟨rfl, rfl⟩)
    | (go_at_call 66; (with_reducible refine F4.out.mono ?_); rintro _ _ ⟨rfl, rfl⟩)
    | (go_at_call 66; (with_reducible refine F5.out.mono ?_); rintro _ _ ⟨rfl, rfl⟩)
    | (go_at_call 66; (with_reducible refine F7.out.mono ?_); rintro _ _ ⟨rfl, rfl⟩)
    | (go_at_call 67; (with_reducible refine (D1.out _).mono ?_); rintro _ _ ⟨rfl, rfl⟩)
    | (go_at_call 67; (with_reducible refine (D2.out _).mono ?_); rintro _ _ ⟨rfl, rfl⟩)
    | (go_at_call 67; (with_reducible refine (D6.out _).mono ?_); rintro _ _ ⟨rfl, rfl⟩))
  go_loopw [58] (fun i wr => ∃ k : Nat, k ≤ 15 ∧ i = .int .i64 k ∧ PaAt w wS b o c w3 U0 N1 N2 (kindTo w3 k) U4 U5 N6 U7 O1 O2 O6 wr) (fun i _ => 15 - (intOf i).toNat)
  case atStart =>
    refine ⟨0, by omega, rfl, ⟨?_, ?_, ?_, ?_, ?_, ?_⟩⟩
    · exact blk_set (blk_far (blk_set (blk_far (blk_set (blk_far (blk_set (blk_set (blk_set (blk_set (blk_set Hg6.out 0 _) 4 _) 5 _) 7 _) 1 _) hn9 _) 2 _) hn9 _) 6 _) hn9 _) 3 _
    · exact blk_far (blk_set (blk_far (blk_set (blk_far (blk_set (blk_far (blk_far (blk_far (blk_far (blk_far Hg7.out hn9.symm _) hn9.symm _) hn9.symm _) hn9.symm _) hn9.symm _) 0 _) hn9.symm _) 1 _) hn9.symm _) 2 _) hn9.symm _
    · repeat (refine blk_far ?_ (by first | exact hn7 | exact hn8) _)
      exact Hg4.out
    · repeat (refine blk_far ?_ (by simp; omega) _)
      exact HgR.out
    · repeat (rw [World.cell?_setCell_other _ _ _ _ (by intro h; injection h; omega)])
      exact s3
    · have hx := HX.out
      repeat (first | with_reducible exact hx | with_reducible exact Keeps.refl _ _ | with_reducible refine Keeps.drew ?_ | with_reducible refine Keeps.drewN ?_ _ | with_reducible refine Keeps.alloc ?_ _ | with_reducible refine Keeps.setCell ?_ (by first | (intro h; simp at h; done) | (intro _; simp; done) | (intro _; simp; omega) | (intro h; simp at h; omega)) _)
  case round =>
    obtain ⟨k, hk, rfl, hat⟩ := hrel
    have Hat := Lib.hid hat
    clear d0 d1 d2 d3 d4 d5 d6 d7 f6 b0 b1 b2 f7 s1 s2 s3 s6 z4
    by_cases hlt : k < 15
    · have e3 := blk_cell hat.g6 3 rfl
      have fe := blk_free hat.g6
      have y4 := blk_cell hat.g4 0 rfl
      have s3 := hat.s3
      clear hat
      obtain ⟨nm, hnm⟩ : ∃ nm, nm = kindsB.getD k ⟨#[]⟩ := ⟨_, rfl⟩
      have hix := idx_kinds k nm (by rw [hnm]; exact kinds_at hlt) wr
      have Hnm := Lib.hid hnm
      clear hnm
      cases hq : (nm == w3) <;> have hq' : (nm.toList == w3.toList) = _ := (show (nm.toList == w3.toList) = (nm == w3) by rw [Bool.eq_iff_iff, beqB_iff, beq_iff_eq]; exact ⟨toL_inj, fun e => by rw [e]⟩).trans hq
      · have Hk := Lib.hid (show kindTo w3 (k + 1) = kindTo w3 k by rw [kindTo, ← Hnm.out, hq]; rfl)
        clear hq
        go_wp2_with fail
        go_roundw
        case rel => exact ⟨k + 1, by omega, by go_num, by rw [Hk.out]; exact Hat.out⟩
        case measure => simp [intOf]; omega
      · have Hk := Lib.hid (show kindTo w3 (k + 1) = (k : Int) by rw [kindTo, ← Hnm.out, hq]; rfl)
        clear hq
        go_wp2_with fail
        go_roundw
        case rel =>
          refine ⟨k + 1, by omega, by go_num, ?_⟩
          rw [Hk.out]
          exact ⟨blk_set Hat.out.g6 3 _, blk_far Hat.out.g7 hn9.symm _, blk_far Hat.out.g4 hn7 _, blk_far Hat.out.gR (by simp; omega) _, (World.cell?_setCell_other _ _ _ _ (by intro h; injection h; omega)).trans Hat.out.s3, Keeps.setCell Hat.out.ext (fun h => by simp at h; omega) _⟩
        case measure => simp [intOf]; omega
    · obtain rfl : k = 15 := by omega
      obtain ⟨K, hK⟩ : ∃ K, K = kindTo w3 15 := ⟨_, rfl⟩
      rw [← hK] at Hat hat
      have HE' := Lib.hid (show evP w0 w1 w2 w3 w4 w5 w6 w7 = ⟨U0, N1, N2, K, U4, U5, N6, U7⟩ by rw [HE.out]; unfold evP; rw [hK])
      have e0 := blk_cell hat.g6 0 rfl
      have e1 := blk_cell hat.g6 1 rfl
      have e2 := blk_cell hat.g6 2 rfl
      have e3 := blk_cell hat.g6 3 rfl
      have e4 := blk_cell hat.g6 4 rfl
      have e5 := blk_cell hat.g6 5 rfl
      have e6 := blk_cell hat.g6 6 rfl
      have e7 := blk_cell hat.g6 7 rfl
      have b0 := blk_cell hat.g7 0 rfl
      have b1 := blk_cell hat.g7 1 rfl
      have b2 := blk_cell hat.g7 2 rfl
      have r0 := blk_cell hat.gR 0 rfl
      have r1 := blk_cell hat.gR 1 rfl
      have r2 := blk_cell hat.gR 2 rfl
      have r3 := blk_cell hat.gR 3 rfl
      have r4 := blk_cell hat.gR 4 rfl
      have r5 := blk_cell hat.gR 5 rfl
      have r6 := blk_cell hat.gR 6 rfl
      have r7 := blk_cell hat.gR 7 rfl
      have fR := blk_free hat.gR
      have hnR : w.heap.size ≠ wS.heap.size + 1 := by omega
      have hnR7 : w.heap.size ≠ wS.heap.size + 1 + 1 := by omega
      clear hat hK
      cases h1 : O1
      · have Hf := Lib.hid (show parP s w0 w1 w2 w3 w4 w5 w6 w7 = (ev0, 2) by unfold parP parB; rw [← HO.out.1, h1]; rfl)
        subst h1
        go_wp2_with fail
        refine bodyPost_ret (v := .tuple #[.agg #[.string ⟨#[]⟩, .int .i64 0, .int .i64 0, .int .i64 0, .string ⟨#[]⟩, .string ⟨#[]⟩, .int .i64 0, .string ⟨#[]⟩], .int .i64 2]) (by simp [results, Tryd.results42, go_sem, *]) rfl ⟨by rw [Hf.out]; rfl, ?_⟩
        have hx := Hat.out.ext
        repeat (first | with_reducible exact hx | with_reducible exact Keeps.refl _ _ | with_reducible refine Keeps.drew ?_ | with_reducible refine Keeps.drewN ?_ _ | with_reducible refine Keeps.alloc ?_ _ | with_reducible refine Keeps.setCell ?_ (by first | (intro h; simp at h; done) | (intro _; simp; done) | (intro _; simp; omega) | (intro h; simp at h; omega)) _)
      cases h2 : O2
      · have Hf := Lib.hid (show parP s w0 w1 w2 w3 w4 w5 w6 w7 = (ev0, 2) by unfold parP parB; rw [← HO.out.2.1, h2]; simp)
        subst h1 h2
        go_wp2_with fail
        refine bodyPost_ret (v := .tuple #[.agg #[.string ⟨#[]⟩, .int .i64 0, .int .i64 0, .int .i64 0, .string ⟨#[]⟩, .string ⟨#[]⟩, .int .i64 0, .string ⟨#[]⟩], .int .i64 2]) (by simp [results, Tryd.results42, go_sem, *]) rfl ⟨by rw [Hf.out]; rfl, ?_⟩
        have hx := Hat.out.ext
        repeat (first | with_reducible exact hx | with_reducible exact Keeps.refl _ _ | with_reducible refine Keeps.drew ?_ | with_reducible refine Keeps.drewN ?_ _ | with_reducible refine Keeps.alloc ?_ _ | with_reducible refine Keeps.setCell ?_ (by first | (intro h; simp at h; done) | (intro _; simp; done) | (intro _; simp; omega) | (intro h; simp at h; omega)) _)
      cases h6 : O6
      · have Hf := Lib.hid (show parP s w0 w1 w2 w3 w4 w5 w6 w7 = (ev0, 2) by unfold parP parB; rw [← HO.out.2.2, h6]; simp)
        subst h1 h2 h6
        go_wp2_with fail
        refine bodyPost_ret (v := .tuple #[.agg #[.string ⟨#[]⟩, .int .i64 0, .int .i64 0, .int .i64 0, .string ⟨#[]⟩, .string ⟨#[]⟩, .int .i64 0, .string ⟨#[]⟩], .int .i64 2]) (by simp [results, Tryd.results42, go_sem, *]) rfl ⟨by rw [Hf.out]; rfl, ?_⟩
        have hx := Hat.out.ext
        repeat (first | with_reducible exact hx | with_reducible exact Keeps.refl _ _ | with_reducible refine Keeps.drew ?_ | with_reducible refine Keeps.drewN ?_ _ | with_reducible refine Keeps.alloc ?_ _ | with_reducible refine Keeps.setCell ?_ (by first | (intro h; simp at h; done) | (intro _; simp; done) | (intro _; simp; omega) | (intro h; simp at h; omega)) _)
      have HSm := Lib.hid (show EvSm (⟨U0, N1, N2, K, U4, U5, N6, U7⟩ : Ev) by
        rw [← HE'.out]
        exact ⟨Nat.le_trans (undotB_size w0) (Hsz.out w0 (by simp)), Nat.le_trans (undotB_size w4) (Hsz.out w4 (by simp)), Nat.le_trans (undotB_size w5) (Hsz.out w5 (by simp)), Nat.le_trans (undotB_size w7) (Hsz.out w7 (by simp))⟩)
      obtain ⟨F, hF⟩ : ∃ F : ByteArray, F = fmtF (⟨U0, N1, N2, K, U4, U5, N6, U7⟩ : Ev) := ⟨_, rfl⟩
      have HFm := Lib.hid (fun (W : World) (h : Ext w W) => show Calls Tryd.prog 29 #[.agg #[.string U0, .int .i64 N1, .int .i64 N2, .int .i64 K, .string U4, .string U5, .int .i64 N6, .string U7]] W (fun r w' => r = .returned (.string F) ∧ Ext W w') by rw [hF]; exact ev_Format ⟨U0, N1, N2, K, U4, U5, N6, U7⟩ W HSm.out (Hv.out.ext h))
      have HF := Lib.hid (show parP s w0 w1 w2 w3 w4 w5 w6 w7 = if F == s then ((⟨U0, N1, N2, K, U4, U5, N6, U7⟩ : Ev), 0) else (ev0, 2) by
        rw [hF]; exact parP_of HE'.out (HO.out.1.symm.trans h1) (HO.out.2.1.symm.trans h2) (HO.out.2.2.symm.trans h6) Hsne.out)
      subst h1 h2 h6
      clear hF
      cases hq : (F == s) <;> have hq' : (F.toList != s.toList) = _ := (show (F.toList != s.toList) = !(F == s) by rw [Bool.eq_iff_iff]; simp [beqB_false_iff]; exact ⟨fun h e => h (by rw [e]), fun h e => h (toL_inj e)⟩).trans (congrArg (!·) hq)
      · have Hf := Lib.hid (show parP s w0 w1 w2 w3 w4 w5 w6 w7 = (ev0, 2) by rw [HF.out, hq]; rfl)
        clear hq
        simp only [Bool.not_false] at hq'
        have hq2 : (F.toList == s.toList) = false := by simpa using hq'
        go_wp2_with (go_at_call 29; (with_reducible refine (HFm.out _ Hat.out.ext).mono ?_); rintro _ wF ⟨rfl, hxF⟩; clear e0 e1 e2 e3 e4 e5 e6 e7 r0 r1 r2 r3 r4 r5 r6 r7 fR b0 b1 b2; have hgE := hxF.blk Hat.out.g6; have hgR := hxF.blk Hat.out.gR; have e0 := blk_cell hgE 0 rfl; have e1 := blk_cell hgE 1 rfl; have e2 := blk_cell hgE 2 rfl; have e3 := blk_cell hgE 3 rfl; have e4 := blk_cell hgE 4 rfl; have e5 := blk_cell hgE 5 rfl; have e6 := blk_cell hgE 6 rfl; have e7 := blk_cell hgE 7 rfl; have r0 := blk_cell hgR 0 rfl; have r1 := blk_cell hgR 1 rfl; have r2 := blk_cell hgR 2 rfl; have r3 := blk_cell hgR 3 rfl; have r4 := blk_cell hgR 4 rfl; have r5 := blk_cell hgR 5 rfl; have r6 := blk_cell hgR 6 rfl; have r7 := blk_cell hgR 7 rfl; have fR := blk_free hgR; have HxF := Lib.hid (Hat.out.ext.trans hxF); clear hxF hgE hgR)
        refine bodyPost_ret (v := .tuple #[.agg #[.string ⟨#[]⟩, .int .i64 0, .int .i64 0, .int .i64 0, .string ⟨#[]⟩, .string ⟨#[]⟩, .int .i64 0, .string ⟨#[]⟩], .int .i64 2]) (by simp [results, Tryd.results42, go_sem, *]) rfl ⟨by rw [Hf.out]; rfl, ?_⟩
        have hx := HxF.out
        repeat (first | with_reducible exact hx | with_reducible exact Keeps.refl _ _ | with_reducible refine Keeps.drew ?_ | with_reducible refine Keeps.drewN ?_ _ | with_reducible refine Keeps.alloc ?_ _ | with_reducible refine Keeps.setCell ?_ (by first | (intro h; simp at h; done) | (intro _; simp; done) | (intro _; simp; omega) | (intro h; simp at h; omega)) _)
      · have Hf := Lib.hid (show parP s w0 w1 w2 w3 w4 w5 w6 w7 = (⟨U0, N1, N2, K, U4, U5, N6, U7⟩, 0) by rw [HF.out, hq]; rfl)
        clear hq
        simp only [Bool.not_true] at hq'
        have hq2 : (F.toList == s.toList) = true := by simpa using hq'
        go_wp2_with (go_at_call 29; (with_reducible refine (HFm.out _ Hat.out.ext).mono ?_); rintro _ wF ⟨rfl, hxF⟩; clear e0 e1 e2 e3 e4 e5 e6 e7 r0 r1 r2 r3 r4 r5 r6 r7 fR b0 b1 b2; have hgE := hxF.blk Hat.out.g6; have hgR := hxF.blk Hat.out.gR; have e0 := blk_cell hgE 0 rfl; have e1 := blk_cell hgE 1 rfl; have e2 := blk_cell hgE 2 rfl; have e3 := blk_cell hgE 3 rfl; have e4 := blk_cell hgE 4 rfl; have e5 := blk_cell hgE 5 rfl; have e6 := blk_cell hgE 6 rfl; have e7 := blk_cell hgE 7 rfl; have r0 := blk_cell hgR 0 rfl; have r1 := blk_cell hgR 1 rfl; have r2 := blk_cell hgR 2 rfl; have r3 := blk_cell hgR 3 rfl; have r4 := blk_cell hgR 4 rfl; have r5 := blk_cell hgR 5 rfl; have r6 := blk_cell hgR 6 rfl; have r7 := blk_cell hgR 7 rfl; have fR := blk_free hgR; have HxF := Lib.hid (Hat.out.ext.trans hxF); clear hxF hgE hgR)
        refine bodyPost_ret (v := .tuple #[.agg #[.string U0, .int .i64 N1, .int .i64 N2, .int .i64 K, .string U4, .string U5, .int .i64 N6, .string U7], .int .i64 0]) (by simp [results, Tryd.results42, go_sem, *]) rfl ⟨by rw [Hf.out]; rfl, ?_⟩
        have hx := HxF.out
        repeat (first | with_reducible exact hx | with_reducible exact Keeps.refl _ _ | with_reducible refine Keeps.drew ?_ | with_reducible refine Keeps.drewN ?_ _ | with_reducible refine Keeps.alloc ?_ _ | with_reducible refine Keeps.setCell ?_ (by first | (intro h; simp at h; done) | (intro _; simp; done) | (intro _; simp; omega) | (intro h; simp at h; omega)) _)
end Go.Proofs.YtmhkgfoimkonoaaDoor
