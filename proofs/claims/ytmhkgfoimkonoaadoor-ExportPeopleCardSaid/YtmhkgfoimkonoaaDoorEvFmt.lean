/-
  What is proved here: the program's Format of an event is the plain function's text. Conditions: texts of at most a million bytes; the library's variables, and the names of the kinds, hold what their text lays.
-/
import Derived.Test.YtmhkgfoimkonoaaDoorEvEnc
import Derived.Test.YtmhkgfoimkonoaaDoorLibS
import Derived.Deep.RegionHeld3
import Derived.Deep.DeepCutAuto
namespace Go.Proofs.YtmhkgfoimkonoaaDoor
open Go Go.RowKit Go.Proofs
attribute [local go_sem ↓] Go.wp_at_zero Go.wp_at_succ

def kindsB : List ByteArray := [bts [115, 101, 101, 110], bts [111, 112, 101, 110, 101, 100], bts [102, 105, 110, 105, 115, 104, 101, 100], bts [98, 111, 117, 103, 104, 116], bts [114, 97, 116, 101, 100], bts [104, 105, 100, 100, 101, 110], bts [117, 110, 104, 105, 100, 100, 101, 110], bts [102, 111, 108, 108, 111, 119, 101, 100], bts [117, 110, 102, 111, 108, 108, 111, 119, 101, 100], bts [109, 117, 116, 101, 100], bts [117, 110, 109, 117, 116, 101, 100], bts [108, 105, 115, 116, 101, 100], bts [115, 116, 111, 99, 107, 101, 100], bts [100, 101, 108, 105, 115, 116, 101, 100], bts [102, 111, 114, 103, 111, 116, 116, 101, 110]]
/-- The kinds' names hold what their text lays. -/
def Kn (w : World) : Prop := ∀ (k : Nat) (s : ByteArray), kindsB[k]? = some s → w.cell? ⟨0, k, none⟩ = some (.string s)
theorem Kn.ext {w w' : World} (h : Kn w) (hx : Ext w w') : Kn w' := fun k s hs => (hx.cell (cell_lt (h k s hs)) trivial).trans (h k s hs)
structure Vars (w : World) : Prop where
  mx : Mx w
  pow : Pow w
  kn : Kn w
theorem Vars.ext {w w' : World} (h : Vars w) (hx : Ext w w') : Vars w' := ⟨h.mx.ext hx, h.pow.ext hx, h.kn.ext hx⟩
def dotB (s : ByteArray) : ByteArray := if noneB s then ⟨#[46]⟩ else s
def wordsE (e : Ev) : List ByteArray := [e.src, itoaB e.num, itoaB e.tick, kindsB.getD e.kind.toNat ⟨#[]⟩, e.person, e.item, itoaB e.value, e.text]
def fmtE (e : Ev) : ByteArray := ⟨(Lib.join (((wordsE e).map dotB).map (·.data.toList)) [32]).toArray⟩
def mixL (l : List ByteArray) (k : Nat) : List ByteArray := (l.take k).map dotB ++ l.drop k
theorem mixL_zero (l : List ByteArray) : mixL l 0 = l := by simp [mixL]
theorem mixL_at {l : List ByteArray} {k : Nat} {s : ByteArray} (h : l[k]? = some s) : (mixL l k)[k]? = some s := by
  have hk := (List.getElem?_eq_some_iff.1 h).1
  unfold mixL
  rw [List.getElem?_append_right (by simp; omega)]
  simp only [List.length_map, List.length_take, List.getElem?_drop]
  rw [show k + (k - min k l.length) = k by omega]; exact h
theorem mixL_step {l : List ByteArray} {k : Nat} {s : ByteArray} (h : l[k]? = some s) : (mixL l k).set k (dotB s) = mixL l (k + 1) := by
  have hk := (List.getElem?_eq_some_iff.1 h).1
  unfold mixL
  have e : l.drop k = s :: l.drop (k + 1) := by rw [List.drop_eq_getElem_cons hk, (List.getElem?_eq_some_iff.1 h).2]
  rw [e, List.take_add_one, h]
  have hl : ((l.take k).map dotB).length = k := by simp; omega
  rw [List.set_append_right _ _ (by omega), hl, Nat.sub_self]
  simp
theorem mixL_pass {l : List ByteArray} {k : Nat} {s : ByteArray} (h : l[k]? = some s) (hs : noneB s = false) : mixL l k = mixL l (k + 1) := by
  have h2 := mixL_step h
  unfold dotB at h2
  rw [hs] at h2
  rw [← h2]
  have h3 := mixL_at h
  apply List.ext_getElem?
  intro i
  rw [List.getElem?_set]
  split
  · rename_i e; subst e
    rw [if_pos (List.getElem?_eq_some_iff.1 h3).1, h3]; rfl
  · rfl
theorem mixL_len (l : List ByteArray) (k : Nat) : (mixL l k).length = l.length := by unfold mixL; simp; omega
theorem mixL_full {l : List ByteArray} {k : Nat} (h : l.length ≤ k) : mixL l k = l.map dotB := by unfold mixL; rw [List.take_of_length_le h, List.drop_eq_nil_of_le h, List.append_nil]
theorem strs_set (l : List ByteArray) (k : Nat) (s : ByteArray) : ((l.map Value.string).toArray).setIfInBounds k (.string s) = ((l.set k s).map Value.string).toArray := by
  rw [List.setIfInBounds_toArray, List.map_set]
theorem dotB_size (s : ByteArray) : (dotB s).size ≤ s.size + 1 := by
  unfold dotB
  split
  · show 1 ≤ _; omega
  · omega
theorem kindsB_size : ∀ s ∈ kindsB, s.size ≤ 10 := by
  intro s hs
  simp only [kindsB, List.mem_cons, List.not_mem_nil, or_false] at hs
  rcases hs with rfl | rfl | rfl | rfl | rfl | rfl | rfl | rfl | rfl | rfl | rfl | rfl | rfl | rfl | rfl <;> (rw [bts_size]; decide)

set_option maxRecDepth 100000 in
set_option maxHeartbeats 4000000 in
theorem ev_Format_no (e : Ev) (w : World) (hsm : EvSm e) (hm : Mx w) (h : mayE e = false) :
    Calls Tryd.prog 29 #[.agg #[.string e.src, .int .i64 e.num, .int .i64 e.tick, .int .i64 e.kind, .string e.person, .string e.item, .int .i64 e.value, .string e.text]] w fun r w' => r = .returned (.string ⟨#[]⟩) ∧ Ext w w' := by
  have Hsm := Lib.hid hsm
  have Hm := Lib.hid hm
  clear hsm hm
  go_enter Tryd.func29, Tryd.ntmps29
  go_wp2_with (go_at_call 36; refine (ev_May e _ Hsm.out (Hm.out.ext ((Keeps.refl _ _).alloc _))).mono ?_; rw [h]; rintro _ w1 ⟨rfl, hx1⟩; have Hx1 := Lib.hid (Keeps.trans ((Keeps.refl (fun _ => True) w).alloc _) hx1); clear hx1)
  go_ret
  exact ⟨rfl, Hx1.out⟩

set_option maxRecDepth 100000 in
set_option maxHeartbeats 4000000 in
theorem ev_Format_yes' (src person item text : ByteArray) (num tick value : Int) (kk : Nat) (w : World) (hsm : EvSm (⟨src, num, tick, (kk : Int), person, item, value, text⟩ : Ev)) (hv : Vars w) (h : mayE (⟨src, num, tick, (kk : Int), person, item, value, text⟩ : Ev) = true) :
    Calls Tryd.prog 29 #[.agg #[.string src, .int .i64 num, .int .i64 tick, .int .i64 (kk : Int), .string person, .string item, .int .i64 value, .string text]] w fun r w' => r = .returned (.string (fmtE (⟨src, num, tick, (kk : Int), person, item, value, text⟩ : Ev))) ∧ Ext w w' := by
  have Hsm := Lib.hid hsm
  have Hv := Lib.hid hv
  have hF := mayF h
  have hk1 : (kk : Int) ≤ 14 := hF.kind1
  have hkl : kk < kindsB.length := by show kk < 15; omega
  obtain ⟨nm, hnm⟩ : ∃ nm, kindsB[kk]? = some nm := ⟨_, List.getElem?_eq_getElem hkl⟩
  have hn0 : 0 ≤ num := hF.num00
  have hn1 : num ≤ 1099511627776 := hF.num1
  have ht0 : 0 ≤ tick := hF.tick0
  have ht1 : tick ≤ 1099511627776 := hF.tick1
  have hv0 : 0 ≤ value := hF.value0
  have hv1 : value ≤ 1099511627776 := hF.value11
  have k0 : (0 : Int) ≤ (kk : Int) := by omega
  have k1 : (kk : Int) < 15 := by omega
  have Hw := Lib.hid (show wordsE (⟨src, num, tick, (kk : Int), person, item, value, text⟩ : Ev) = [src, itoaB num, itoaB tick, nm, person, item, itoaB value, text] by
    unfold wordsE; simp only [Int.toNat_natCast, List.getD_eq_getElem?_getD, hnm]; rfl)
  have Hlen := Lib.hid (show (Lib.join ((([src, itoaB num, itoaB tick, nm, person, item, itoaB value, text] : List ByteArray).map dotB).map (·.data.toList)) (ByteArray.mk #[32]).data.toList).length ≤ 140737488355328 by
    have := join_len ((([src, itoaB num, itoaB tick, nm, person, item, itoaB value, text] : List ByteArray).map dotB).map (·.data.toList)) (ByteArray.mk #[32]).data.toList 2000 (fun x hx => by
      obtain ⟨y, hy, rfl⟩ := List.mem_map.1 hx
      obtain ⟨z, hz, rfl⟩ := List.mem_map.1 hy
      have hd := dotB_size z
      have hdl : (dotB z).data.toList.length = (dotB z).size := by simp
      rw [hdl]
      have a1 := itoa_len num hn0 hn1
      have a2 := itoa_len tick ht0 ht1
      have a3 := itoa_len value hv0 hv1
      have a4 := kindsB_size nm (List.mem_of_getElem? hnm)
      have a5 : src.size ≤ 24 := (nameB_size hF.src).2
      have a6 : person.size ≤ 24 := hF.psize
      have a7 : item.size ≤ 24 := hF.isize
      have a8 : text.size ≤ 224 := hF.tsize
      have hi : ∀ n : Int, (itoaB n).size = (Lib.itoa n).length := fun n => by show (Lib.itoa n).toArray.size = _; simp
      simp only [List.mem_cons, List.not_mem_nil, or_false] at hz
      rcases hz with rfl | rfl | rfl | rfl | rfl | rfl | rfl | rfl <;> (try rw [hi] at hd) <;> omega)
    simp only [List.length_map, List.length_cons, List.length_nil] at this
    exact Nat.le_trans this (by decide))
  have Hnm := Lib.hid hnm
  clear hsm hv hF hnm hkl
  go_enter Tryd.func29, Tryd.ntmps29
  go_wp2_with (go_at_call 36; refine (ev_May (⟨src, num, tick, (kk : Int), person, item, value, text⟩ : Ev) _ Hsm.out (Hv.out.mx.ext ((Keeps.refl _ _).alloc _))).mono ?_; rw [h]; rintro _ X ⟨rfl, hx1⟩; have hg1 := hx1.blk (blk_new w _); have Hg1 := Lib.hid hg1; have Hx1 := Lib.hid (Keeps.trans ((Keeps.refl (fun _ => True) w).alloc _) hx1); clear hx1 hg1)
  have kn0 := (Hv.out.kn.ext Hx1.out) kk nm Hnm.out
  have wsz : w.heap.size < X.heap.size := (Array.getElem?_eq_some_iff.1 Hg1.out).1
  have gsz : 0 < X.heap.size := cell_lt kn0
  have d0 := blk_cell Hg1.out 0 rfl
  have d1 := blk_cell Hg1.out 1 rfl
  have d2 := blk_cell Hg1.out 2 rfl
  have d3 := blk_cell Hg1.out 3 rfl
  have d4 := blk_cell Hg1.out 4 rfl
  have d5 := blk_cell Hg1.out 5 rfl
  have d6 := blk_cell Hg1.out 6 rfl
  have d7 := blk_cell Hg1.out 7 rfl
  have HpX := Lib.hid (Hv.out.pow.ext Hx1.out)
  obtain ⟨S1, hS1⟩ : ∃ s, s = itoaB num := ⟨_, rfl⟩
  obtain ⟨S2, hS2⟩ : ∃ s, s = itoaB tick := ⟨_, rfl⟩
  obtain ⟨S3, hS3⟩ : ∃ s, s = itoaB value := ⟨_, rfl⟩
  have HC := Lib.hid (fun (W : World) (h : Pow W) => show Calls Tryd.prog 54 #[.int .i64 num] W (fun e w' => e = .returned (.string S1) ∧ Ext W w') by rw [hS1]; exact itoa_c num hn0 hn1 W h)
  have HD := Lib.hid (fun (W : World) (h : Pow W) => show Calls Tryd.prog 54 #[.int .i64 tick] W (fun e w' => e = .returned (.string S2) ∧ Ext W w') by rw [hS2]; exact itoa_c tick ht0 ht1 W h)
  have HE := Lib.hid (fun (W : World) (h : Pow W) => show Calls Tryd.prog 54 #[.int .i64 value] W (fun e w' => e = .returned (.string S3) ∧ Ext W w') by rw [hS3]; exact itoa_c value hv0 hv1 W h)
  rw [← hS1, ← hS2, ← hS3] at Hw Hlen
  clear hS1 hS2 hS3
  go_cut [3] (fun s3 wc => ∃ g, s3 = .slice (some ⟨g, 0, none⟩) 8 8 ∧ wc.heap[g]? = some (.cells #[.string src, .string S1, .string S2, .string nm, .string person, .string item, .string S3, .string text] 9) ∧ X.heap.size ≤ g ∧ Ext X wc)
  case first =>
    go_region_held3 (fun w' => X.heap.size ≤ w'.heap.size ∧ ∀ p : Addr, p.block < X.heap.size → w'.cell? p = X.cell? p) (repeat (first | with_reducible assumption | with_reducible exact Old.refl _ | with_reducible refine Old.drew ?_ | with_reducible refine Old.alloc ?_ _)) (first
      | (go_at_call 54; with_reducible refine (HC.out _ (HpX.out.ext (by repeat (first | assumption | with_reducible exact Keeps.refl _ _ | with_reducible refine Keeps.drew ?_ | with_reducible refine Keeps.alloc ?_ _)))).mono ?_; rintro _ w4 ⟨rfl, hx4⟩; have hy : Ext X w4 := Keeps.trans (by repeat (first | assumption | with_reducible exact Keeps.refl _ _ | with_reducible refine Keeps.drew ?_ | with_reducible refine Keeps.alloc ?_ _)) hx4; have hO : Old X w4 := Old.of_ext hy)
      | (go_at_call 54; with_reducible refine (HD.out _ (HpX.out.ext (by repeat (first | assumption | with_reducible exact Keeps.refl _ _ | with_reducible refine Keeps.drew ?_ | with_reducible refine Keeps.alloc ?_ _)))).mono ?_; rintro _ w4 ⟨rfl, hx4⟩; have hy : Ext X w4 := Keeps.trans (by repeat (first | assumption | with_reducible exact Keeps.refl _ _ | with_reducible refine Keeps.drew ?_ | with_reducible refine Keeps.alloc ?_ _)) hx4; have hO : Old X w4 := Old.of_ext hy)
      | (go_at_call 54; with_reducible refine (HE.out _ (HpX.out.ext (by repeat (first | assumption | with_reducible exact Keeps.refl _ _ | with_reducible refine Keeps.drew ?_ | with_reducible refine Keeps.alloc ?_ _)))).mono ?_; rintro _ w4 ⟨rfl, hx4⟩; have hy : Ext X w4 := Keeps.trans (by repeat (first | assumption | with_reducible exact Keeps.refl _ _ | with_reducible refine Keeps.drew ?_ | with_reducible refine Keeps.alloc ?_ _)) hx4; have hO : Old X w4 := Old.of_ext hy))
    all_goals
      go_wp2_with fail
      go_meet
      refine ⟨_, rfl, blk_new _ _, ?_, Keeps.alloc (by repeat (first | assumption | with_reducible exact Keeps.refl _ _ | with_reducible refine Keeps.drew ?_ | with_reducible refine Keeps.alloc ?_ _)) _⟩
      have h9 := hy.size
      omega
  case rest =>
    obtain ⟨g, hs3, hgc, hgX, hxc⟩ := hcut
    subst hs3
    obtain ⟨Y, hY⟩ : ∃ Y, Y = wc := ⟨_, rfl⟩
    rw [← hY] at hgc hxc ⊢
    clear hY
    obtain ⟨l, hl⟩ : ∃ l : List ByteArray, l = [src, S1, S2, nm, person, item, S3, text] := ⟨_, rfl⟩
    have hgl : Y.heap[g]? = some (.cells ((mixL l 0).map Value.string).toArray 9) := by rw [hgc, mixL_zero, hl]; rfl
    have Hl8 := Lib.hid (show l.length = 8 by rw [hl]; rfl)
    rw [← hl] at Hw Hlen
    have HgY := Lib.hid hgl
    have HxY := Lib.hid hxc
    clear hl hgc hgl hxc d0 d1 d2 d3 d4 d5 d6 d7 kn0
    go_wp2_with fail
    go_loopw [33] (fun i wr => ∃ k : Nat, k ≤ 8 ∧ i = .int .i64 k ∧ wr.heap[g]? = some (.cells ((mixL l k).map Value.string).toArray 9) ∧ Ext X wr) (fun i _ => 8 - (intOf i).toNat)
    case atStart => exact ⟨0, by omega, rfl, HgY.out, HxY.out⟩
    case round =>
      obtain ⟨k, hk, rfl, hgk, hxk⟩ := hrel
      have Hgk := Lib.hid hgk
      have Hxk := Lib.hid hxk
      clear hgk hxk
      by_cases hlt : k < 8
      · obtain ⟨s, hs⟩ : ∃ s, l[k]? = some s := ⟨_, List.getElem?_eq_getElem (by have := Hl8.out; omega)⟩
        have hc := blk_cell Hgk.out k (v := .string s) (by have := mixL_at hs; simp [this])
        have f0 := blk_free Hgk.out k
        have i0 : (0 : Int) ≤ (k : Int) := by omega
        have i1 : (k : Int) < 8 := by omega
        have Hs := Lib.hid hs
        clear hs
        cases hn : noneB s <;> have hn' : s.toList.isEmpty = _ := hn
        · have Hst := Lib.hid (mixL_pass Hs.out hn)
          go_wp2_with fail
          go_roundw
          case rel => exact ⟨k + 1, by omega, by go_num, by rw [← Hst.out]; exact Hgk.out, Hxk.out⟩
          case measure => simp [intOf]; omega
        · have Hst := Lib.hid (show (mixL l k).set k ⟨#[46]⟩ = mixL l (k + 1) by have := mixL_step Hs.out; unfold dotB at this; rw [hn] at this; exact this)
          go_wp2_with fail
          go_roundw
          case rel => exact ⟨k + 1, by omega, by go_num, by rw [blk_set Hgk.out, strs_set, Hst.out], Keeps.setCell Hxk.out (fun hlt => by simp at hlt; omega) _⟩
          case measure => simp [intOf]; omega
      · obtain rfl : k = 8 := by omega
        have Hfull := Lib.hid (mixL_full (l := l) (k := 8) (by have := Hl8.out; omega))
        have Hsl := Lib.hid (show Sl strR (fun _ => True) wr (some ⟨g, 0, none⟩) 8 (l.map dotB) from Sl.new_strs Hgk.out trivial (by rw [List.length_map]; exact Hl8.out) (by rw [Hfull.out]))
        obtain ⟨R, hR⟩ : ∃ R : ByteArray, R = ⟨(Lib.join ((l.map dotB).map (·.data.toList)) (ByteArray.mk #[32]).data.toList).toArray⟩ := ⟨_, rfl⟩
        have HR := Lib.hid hR
        clear hR
        go_wp2_with (go_at_call 55; refine (join_c _ 8 8 (l.map dotB) ⟨#[32]⟩ (fun _ => True) _ Hsl.out (Nat.le_refl _) (by omega) Hlen.out).mono ?_; rw [← HR.out]; rintro _ w5 ⟨rfl, hx5⟩; have Hx5 := Lib.hid hx5; clear hx5)
        go_ret
        refine ⟨?_, (Hx1.out.trans Hxk.out).trans Hx5.out⟩
        unfold fmtE
        rw [Hw.out, show (⟨(Lib.join ((l.map dotB).map (·.data.toList)) [32]).toArray⟩ : ByteArray) = R from HR.out.symm]; rfl
theorem ev_Format_yes (e : Ev) (w : World) (hsm : EvSm e) (hv : Vars w) (h : mayE e = true) :
    Calls Tryd.prog 29 #[.agg #[.string e.src, .int .i64 e.num, .int .i64 e.tick, .int .i64 e.kind, .string e.person, .string e.item, .int .i64 e.value, .string e.text]] w fun r w' => r = .returned (.string (fmtE e)) ∧ Ext w w' := by
  have hF := mayF h
  obtain ⟨src, num, tick, kind, person, item, value, text⟩ := e
  obtain ⟨kk, rfl⟩ : ∃ kk : Nat, kind = kk := ⟨kind.toNat, by have : 0 ≤ kind := hF.kind0; omega⟩
  exact ev_Format_yes' src person item text num tick value kk w hsm hv h
end Go.Proofs.YtmhkgfoimkonoaaDoor
