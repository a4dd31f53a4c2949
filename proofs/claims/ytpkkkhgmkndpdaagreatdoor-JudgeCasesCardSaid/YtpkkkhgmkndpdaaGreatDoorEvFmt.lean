/-
  What is proved here: strconv.Itoa and strings.Join of texts that read as a list. Conditions: the library's table of powers holds what its text lays; numbers lie from 0 to 2^40.
  the program's Format of an event is the plain function's text. Conditions: texts of at most a million bytes; the library's variables, and the names of the kinds, hold what their text lays.
  texts joined by a sign that none of them holds are parted again. No program is in sight. No condition but those told.
-/
import Derived.Test.YtpkkkhgmkndpdaaGreatDoorBase
import Derived.Test.YtpkkkhgmkndpdaaGreatDoorShelf
import Derived.Lib.ItoaMem
import Derived.Test.YtpkkkhgmkndpdaaGreatDoorEvMay
import Derived.Deep.RegionHeld3
import Derived.Deep.DeepCutAuto
namespace Go.Proofs.YtpkkkhgmkndpdaaGreatDoor
open Go Go.RowKit Go.Proofs Go.Sort

/-- The library's table of powers of ten holds what its text lays. -/
def Pow (w : World) : Prop := Lib.TabIs Tryz.prog w "internal/strconv.uint64pow10" .u64 Lib.pow10Tab
theorem var_ext {P : Program} {w w' : World} {name : String} {cs : Array Value} (h : Ext w w') (hv : w.var? P name = some cs) : w'.var? P name = some cs := by
  unfold World.var? at *
  cases hg : P.globalNamed name with
  | none => rw [hg] at hv; simp at hv
  | some g =>
    rw [hg] at hv
    simp only [Option.bind_some] at hv ⊢
    cases hb : w.heap[g]? with
    | none => rw [hb] at hv; cases hv
    | some o => rw [h.blk hb]; rw [hb] at hv; exact hv
theorem Pow.ext {w w' : World} (h : Pow w) (hx : Ext w w') : Pow w' := var_ext hx h
theorem Ext.of_grow (w : World) (k : Nat) (os : Array Obj) : Ext w (grow (w.drewN k) os) :=
  ⟨rfl, rfl, rfl, by simp [grow, World.drewN], fun i hi _ => by
    show (w.heap ++ os)[i]? = _
    rw [Array.getElem?_append, if_pos hi]⟩

def itoaB (n : Int) : ByteArray := ⟨(Lib.itoa n).toArray⟩
theorem itoa_c (n : Int) (h0 : 0 ≤ n) (h1 : n ≤ 1099511627776) (w : World) (hp : Pow w) :
    Calls Tryz.prog 74 #[.int .i64 n] w fun e w' => e = .returned (.string (itoaB n)) ∧ Ext w w' := by
  refine (Tryz.strconv_Itoa n (by omega) (by omega) w hp).mono ?_
  rintro e w' ⟨rfl, k, os, rfl⟩
  exact ⟨rfl, Ext.of_grow w k os⟩
theorem join_len (xs : List (List UInt8)) (sep : List UInt8) (k : Nat) (h : ∀ x ∈ xs, x.length ≤ k) : (Lib.join xs sep).length ≤ xs.length * (k + sep.length) := by
  unfold Lib.join List.intercalate
  induction xs with
  | nil => simp
  | cons x xs ih =>
    have hx := h x (by simp)
    have := ih (fun y hy => h y (by simp [hy]))
    cases xs with
    | nil => simp; omega
    | cons y ys =>
      simp only [List.intersperse_cons_cons, List.flatten_cons, List.length_append, List.length_cons] at this ⊢
      rw [Nat.succ_mul (ys.length + 1)]
      omega
theorem itoa_len (n : Int) (h0 : 0 ≤ n) (h1 : n ≤ 1099511627776) : (Lib.itoa n).length ≤ 1000 := by
  unfold Lib.itoa
  rw [if_neg (by omega), Lib.decDigits_length]
  have h2 : n.toNat < 18446744073709551616 := by omega
  rcases Nat.eq_zero_or_pos n.toNat with h | hu
  · rw [h, Lib.nDigits_small (by omega)]; omega
  · have := Lib.numDigits_eq n.toNat hu h2; split at this <;> omega
/-- strings.Join of texts that read as a list. -/
theorem join_c (A : Option Addr) (n c : Nat) (l : List ByteArray) (sep : ByteArray) (ok : Nat → Prop) (w : World) (hs : Sl strR ok w A n l) (hc : n ≤ c) (hn : n ≤ 1000000) (hlen : (Lib.join (l.map (·.data.toList)) sep.data.toList).length ≤ 140737488355328) :
    Calls Tryz.prog 75 #[.slice A n c, .string sep] w fun e w' => e = .returned (.string ⟨(Lib.join (l.map (·.data.toList)) sep.data.toList).toArray⟩) ∧ Ext w w' := by
  have hl := hs.1
  rcases Nat.eq_zero_or_pos n with rfl | hpos
  · have : l = [] := List.eq_nil_of_length_eq_zero hl
    subst this
    refine (Tryz.strings_Join_none A c sep w).mono ?_
    rintro e w' ⟨rfl, rfl⟩
    exact ⟨rfl, Keeps.refl _ _⟩
  · obtain ⟨b, o, rfl, hb, _, hcell⟩ := hs.2 hpos
    subst hl
    refine (Tryz.strings_Join b o c l sep w (fun j x hx => ?_) hb (by omega) hc hlen).mono ?_
    · obtain ⟨xs, rfl, h⟩ := hcell j x hx
      have := h 0 _ rfl
      simpa [strR] using this
    · rintro e w' ⟨rfl, hbl⟩
      exact ⟨rfl, Ext.of_below hbl⟩
end Go.Proofs.YtpkkkhgmkndpdaaGreatDoor
namespace Go.Proofs.YtpkkkhgmkndpdaaGreatDoor
open Go Go.RowKit Go.Proofs
attribute [local go_sem ↓] Go.wp_at_zero Go.wp_at_succ

def kindsB : List ByteArray := [bts [115, 101, 101, 110], bts [111, 112, 101, 110, 101, 100], bts [102, 105, 110, 105, 115, 104, 101, 100], bts [98, 111, 117, 103, 104, 116], bts [114, 97, 116, 101, 100], bts [104, 105, 100, 100, 101, 110], bts [117, 110, 104, 105, 100, 100, 101, 110], bts [102, 111, 108, 108, 111, 119, 101, 100], bts [117, 110, 102, 111, 108, 108, 111, 119, 101, 100], bts [109, 117, 116, 101, 100], bts [117, 110, 109, 117, 116, 101, 100], bts [108, 105, 115, 116, 101, 100], bts [115, 116, 111, 99, 107, 101, 100], bts [100, 101, 108, 105, 115, 116, 101, 100], bts [102, 111, 114, 103, 111, 116, 116, 101, 110]]
/-- The kinds' names hold what their text lays. -/
def Kn (w : World) : Prop := ∀ (k : Nat) (s : ByteArray), kindsB[k]? = some s → w.cell? ⟨0, k, none⟩ = some (.string s)
theorem Kn.ext {w w' : World} (h : Kn w) (hx : Ext w w') : Kn w' := fun k s hs => (hx.cell (cell_lt (h k s hs)) trivial).trans (h k s hs)
structure Vars (w : World) : Prop where
  mx : Mx w
  pow : Pow w
  kn : Kn w
theorem Vars.ext {w w' : World} (h : Vars w) (hx : Ext w w') : Vars w' := ⟨h.mx.ext hx, h.pow.ext hx, h.kn.ext hx⟩
def dotB (s : ByteArray) : ByteArray := if noneB s then ⟨#[46]⟩ else s
def wordsE (e : Ev) : List ByteArray := [e.src, itoaB e.num, itoaB e.tick, kindsB.getD e.kind.toNat ⟨#[]⟩, e.person, e.item, itoaB e.value, e.text]
def fmtE (e : Ev) : ByteArray := ⟨(Lib.join (((wordsE e).map dotB).map (·.data.toList)) [32]).toArray⟩
def mixL (l : List ByteArray) (k : Nat) : List ByteArray := (l.take k).map dotB ++ l.drop k
theorem mixL_zero (l : List ByteArray) : mixL l 0 = l := by simp [mixL]
theorem mixL_at {l : List ByteArray} {k : Nat} {s : ByteArray} (h : l[k]? = some s) : (mixL l k)[k]? = some s := by
  have hk := (List.getElem?_eq_some_iff.1 h).1
  unfold mixL
  rw [List.getElem?_append_right (by simp; omega)]
  simp only [List.length_map, List.length_take, List.getElem?_drop]
  rw [show k + (k - min k l.length) = k by omega]; exact h
theorem mixL_step {l : List ByteArray} {k : Nat} {s : ByteArray} (h : l[k]? = some s) : (mixL l k).set k (dotB s) = mixL l (k + 1) := by
  have hk := (List.getElem?_eq_some_iff.1 h).1
  unfold mixL
  have e : l.drop k = s :: l.drop (k + 1) := by rw [List.drop_eq_getElem_cons hk, (List.getElem?_eq_some_iff.1 h).2]
  rw [e, List.take_add_one, h]
  have hl : ((l.take k).map dotB).length = k := by simp; omega
  rw [List.set_append_right _ _ (by omega), hl, Nat.sub_self]
  simp
theorem mixL_pass {l : List ByteArray} {k : Nat} {s : ByteArray} (h : l[k]? = some s) (hs : noneB s = false) : mixL l k = mixL l (k + 1) := by
  have h2 := mixL_step h
  unfold dotB at h2
  rw [hs] at h2
  rw [← h2]
  have h3 := mixL_at h
  apply List.ext_getElem?
  intro i
  rw [List.getElem?_set]
  split
  · rename_i e; subst e
    rw [if_pos (List.getElem?_eq_some_iff.1 h3).1, h3]; rfl
  · rfl
theorem mixL_len (l : List ByteArray) (k : Nat) : (mixL l k).length = l.length := by unfold mixL; simp; omega
theorem mixL_full {l : List ByteArray} {k : Nat} (h : l.length ≤ k) : mixL l k = l.map dotB := by unfold mixL; rw [List.take_of_length_le h, List.drop_eq_nil_of_le h, List.append_nil]
theorem strs_set (l : List ByteArray) (k : Nat) (s : ByteArray) : ((l.map Value.string).toArray).setIfInBounds k (.string s) = ((l.set k s).map Value.string).toArray := by
  rw [List.setIfInBounds_toArray, List.map_set]
theorem dotB_size (s : ByteArray) : (dotB s).size ≤ s.size + 1 := by
  unfold dotB
  split
  · show 1 ≤ _; omega
  · omega
theorem kindsB_size : ∀ s ∈ kindsB, s.size ≤ 10 := by
  intro s hs
  simp only [kindsB, List.mem_cons, List.not_mem_nil, or_false] at hs
  rcases hs with rfl | rfl | rfl | rfl | rfl | rfl | rfl | rfl | rfl | rfl | rfl | rfl | rfl | rfl | rfl <;> (rw [bts_size]; decide)

set_option maxRecDepth 100000 in
set_option maxHeartbeats 4000000 in
theorem ev_Format_no (e : Ev) (w : World) (hsm : EvSm e) (hm : Mx w) (h : mayE e = false) :
    Calls Tryz.prog 47 #[.agg #[.string e.src, .int .i64 e.num, .int .i64 e.tick, .int .i64 e.kind, .string e.person, .string e.item, .int .i64 e.value, .string e.text]] w fun r w' => r = .returned (.string ⟨#[]⟩) ∧ Ext w w' := by
  have Hsm := Lib.hid hsm
  have Hm := Lib.hid hm
  clear hsm hm
  go_enter Tryz.func47, Tryz.ntmps47
  go_wp2_with (go_at_call 22; refine (ev_May e _ Hsm.out (Hm.out.ext ((Keeps.refl _ _).alloc _))).mono ?_; rw [h]; rintro _ w1 ⟨rfl, hx1⟩; have Hx1 := Lib.hid (Keeps.trans ((Keeps.refl (fun _ => True) w).alloc _) hx1); clear hx1)
  go_ret
  exact ⟨rfl, Hx1.out⟩

set_option maxRecDepth 100000 in
set_option maxHeartbeats 4000000 in
theorem ev_Format_yes' (src person item text : ByteArray) (num tick value : Int) (kk : Nat) (w : World) (hsm : EvSm (⟨src, num, tick, (kk : Int), person, item, value, text⟩ : Ev)) (hv : Vars w) (h : mayE (⟨src, num, tick, (kk : Int), person, item, value, text⟩ : Ev) = true) :
    Calls Tryz.prog 47 #[.agg #[.string src, .int .i64 num, .int .i64 tick, .int .i64 (kk : Int), .string person, .string item, .int .i64 value, .string text]] w fun r w' => r = .returned (.string (fmtE (⟨src, num, tick, (kk : Int), person, item, value, text⟩ : Ev))) ∧ Ext w w' := by
  have Hsm := Lib.hid hsm
  have Hv := Lib.hid hv
  have hF := mayF h
  have hk1 : (kk : Int) ≤ 14 := hF.kind1
  have hkl : kk < kindsB.length := by show kk < 15; omega
  obtain ⟨nm, hnm⟩ : ∃ nm, kindsB[kk]? = some nm := ⟨_, List.getElem?_eq_getElem hkl⟩
  have hn0 : 0 ≤ num := hF.num00
  have hn1 : num ≤ 1099511627776 := hF.num1
  have ht0 : 0 ≤ tick := hF.tick0
  have ht1 : tick ≤ 1099511627776 := hF.tick1
  have hv0 : 0 ≤ value := hF.value0
  have hv1 : value ≤ 1099511627776 := hF.value11
  have k0 : (0 : Int) ≤ (kk : Int) := by omega
  have k1 : (kk : Int) < 15 := by omega
  have Hw := Lib.hid (show wordsE (⟨src, num, tick, (kk : Int), person, item, value, text⟩ : Ev) = [src, itoaB num, itoaB tick, nm, person, item, itoaB value, text] by
    unfold wordsE; simp only [Int.toNat_natCast, List.getD_eq_getElem?_getD, hnm]; rfl)
  have Hlen := Lib.hid (show (Lib.join ((([src, itoaB num, itoaB tick, nm, person, item, itoaB value, text] : List ByteArray).map dotB).map (·.data.toList)) (ByteArray.mk #[32]).data.toList).length ≤ 140737488355328 by
    have := join_len ((([src, itoaB num, itoaB tick, nm, person, item, itoaB value, text] : List ByteArray).map dotB).map (·.data.toList)) (ByteArray.mk #[32]).data.toList 2000 (fun x hx => by
      obtain ⟨y, hy, rfl⟩ := List.mem_map.1 hx
      obtain ⟨z, hz, rfl⟩ := List.mem_map.1 hy
      have hd := dotB_size z
      have hdl : (dotB z).data.toList.length = (dotB z).size := by simp
      rw [hdl]
      have a1 := itoa_len num hn0 hn1
      have a2 := itoa_len tick ht0 ht1
      have a3 := itoa_len value hv0 hv1
      have a4 := kindsB_size nm (List.mem_of_getElem? hnm)
      have a5 : src.size ≤ 24 := (nameB_size hF.src).2
      have a6 : person.size ≤ 24 := hF.psize
      have a7 : item.size ≤ 24 := hF.isize
      have a8 : text.size ≤ 224 := hF.tsize
      have hi : ∀ n : Int, (itoaB n).size = (Lib.itoa n).length := fun n => by show (Lib.itoa n).toArray.size = _; simp
      simp only [List.mem_cons, List.not_mem_nil, or_false] at hz
      rcases hz with rfl | rfl | rfl | rfl | rfl | rfl | rfl | rfl <;> (try rw [hi] at hd) <;> omega)
    simp only [List.length_map, List.length_cons, List.length_nil] at this
    exact Nat.le_trans this (by decide))
  have Hnm := Lib.hid hnm
  clear hsm hv hF hnm hkl
  go_enter Tryz.func47, Tryz.ntmps47
  go_wp2_with (go_at_call 22; refine (ev_May (⟨src, num, tick, (kk : Int), person, item, value, text⟩ : Ev) _ Hsm.out (Hv.out.mx.ext ((Keeps.refl _ _).alloc _))).mono ?_; rw [h]; rintro _ X ⟨rfl, hx1⟩; have hg1 := hx1.blk (blk_new w _); have Hg1 := Lib.hid hg1; have Hx1 := Lib.hid (Keeps.trans ((Keeps.refl (fun _ => True) w).alloc _) hx1); clear hx1 hg1)
  have kn0 := (Hv.out.kn.ext Hx1.out) kk nm Hnm.out
  have wsz : w.heap.size < X.heap.size := (Array.getElem?_eq_some_iff.1 Hg1.out).1
  have gsz : 0 < X.heap.size := cell_lt kn0
  have d0 := blk_cell Hg1.out 0 rfl
  have d1 := blk_cell Hg1.out 1 rfl
  have d2 := blk_cell Hg1.out 2 rfl
  have d3 := blk_cell Hg1.out 3 rfl
  have d4 := blk_cell Hg1.out 4 rfl
  have d5 := blk_cell Hg1.out 5 rfl
  have d6 := blk_cell Hg1.out 6 rfl
  have d7 := blk_cell Hg1.out 7 rfl
  have HpX := Lib.hid (Hv.out.pow.ext Hx1.out)
  obtain ⟨S1, hS1⟩ : ∃ s, s = itoaB num := ⟨_, rfl⟩
  obtain ⟨S2, hS2⟩ : ∃ s, s = itoaB tick := ⟨_, rfl⟩
  obtain ⟨S3, hS3⟩ : ∃ s, s = itoaB value := ⟨_, rfl⟩
  have HC := Lib.hid (fun (W : World) (h : Pow W) => show Calls Tryz.prog 74 #[.int .i64 num] W (fun e w' => e = .returned (.string S1) ∧ Ext W w') by rw [hS1]; exact itoa_c num hn0 hn1 W h)
  have HD := Lib.hid (fun (W : World) (h : Pow W) => show Calls Tryz.prog 74 #[.int .i64 tick] W (fun e w' => e = .returned (.string S2) ∧ Ext W w') by rw [hS2]; exact itoa_c tick ht0 ht1 W h)
  have HE := Lib.hid (fun (W : World) (h : Pow W) => show Calls Tryz.prog 74 #[.int .i64 value] W (fun e w' => e = .returned (.string S3) ∧ Ext W w') by rw [hS3]; exact itoa_c value hv0 hv1 W h)
  rw [← hS1, ← hS2, ← hS3] at Hw Hlen
  clear hS1 hS2 hS3
  go_cut [3] (fun s3 wc => ∃ g, s3 = .slice (some ⟨g, 0, none⟩) 8 8 ∧ wc.heap[g]? = some (.cells #[.string src, .string S1, .string S2, .string nm, .string person, .string item, .string S3, .string text] 9) ∧ X.heap.size ≤ g ∧ Ext X wc)
  case first =>
    go_region_held3 (fun w' => X.heap.size ≤ w'.heap.size ∧ ∀ p : Addr, p.block < X.heap.size → w'.cell? p = X.cell? p) (repeat (first | with_reducible assumption | with_reducible exact Old.refl _ | with_reducible refine Old.drew ?_ | with_reducible refine Old.alloc ?_ _)) (first
      | (go_at_call 74; with_reducible refine (HC.out _ (HpX.out.ext (by repeat (first | assumption | with_reducible exact Keeps.refl _ _ | with_reducible refine Keeps.drew ?_ | with_reducible refine Keeps.alloc ?_ _)))).mono ?_; rintro _ w4 ⟨rfl, hx4⟩; have hy : Ext X w4 := Keeps.trans (by repeat (first | assumption | with_reducible exact Keeps.refl _ _ | with_reducible refine Keeps.drew ?_ | with_reducible refine Keeps.alloc ?_ _)) hx4; have hO : Old X w4 := Old.of_ext hy)
      | (go_at_call 74; with_reducible refine (HD.out _ (HpX.out.ext (by repeat (first | assumption | with_reducible exact Keeps.refl _ _ | with_reducible refine Keeps.drew ?_ | with_reducible refine Keeps.alloc ?_ _)))).mono ?_; rintro _ w4 ⟨rfl, hx4⟩; have hy : Ext X w4 := Keeps.trans (by repeat (first | assumption | with_reducible exact Keeps.refl _ _ | with_reducible refine Keeps.drew ?_ | with_reducible refine Keeps.alloc ?_ _)) hx4; have hO : Old X w4 := Old.of_ext hy)
      | (go_at_call 74; with_reducible refine (HE.out _ (HpX.out.ext (by repeat (first | assumption | with_reducible exact Keeps.refl _ _ | with_reducible refine Keeps.drew ?_ | with_reducible refine Keeps.alloc ?_ _)))).mono ?_; rintro _ w4 ⟨rfl, hx4⟩; have hy : Ext X w4 := Keeps.trans (by repeat (first | assumption | with_reducible exact Keeps.refl _ _ | with_reducible refine Keeps.drew ?_ | with_reducible refine Keeps.alloc ?_ _)) hx4; have hO : Old X w4 := Old.of_ext hy))
    all_goals
      go_wp2_with fail
      go_meet
      refine ⟨_, rfl, blk_new _ _, ?_, Keeps.alloc (by repeat (first | assumption | with_reducible exact Keeps.refl _ _ | with_reducible refine Keeps.drew ?_ | with_reducible refine Keeps.alloc ?_ _)) _⟩
      have h9 := hy.size
      omega
  case rest =>
    obtain ⟨g, hs3, hgc, hgX, hxc⟩ := hcut
    subst hs3
    obtain ⟨Y, hY⟩ : ∃ Y, Y = wc := ⟨_, rfl⟩
    rw [← hY] at hgc hxc ⊢
    clear hY
    obtain ⟨l, hl⟩ : ∃ l : List ByteArray, l = [src, S1, S2, nm, person, item, S3, text] := ⟨_, rfl⟩
    have hgl : Y.heap[g]? = some (.cells ((mixL l 0).map Value.string).toArray 9) := by rw [hgc, mixL_zero, hl]; rfl
    have Hl8 := Lib.hid (show l.length = 8 by rw [hl]; rfl)
    rw [← hl] at Hw Hlen
    have HgY := Lib.hid hgl
    have HxY := Lib.hid hxc
    clear hl hgc hgl hxc d0 d1 d2 d3 d4 d5 d6 d7 kn0
    go_wp2_with fail
    go_loopw [33] (fun i wr => ∃ k : Nat, k ≤ 8 ∧ i = .int .i64 k ∧ wr.heap[g]? = some (.cells ((mixL l k).map Value.string).toArray 9) ∧ Ext X wr) (fun i _ => 8 - (intOf i).toNat)
    case atStart => exact ⟨0, by omega, rfl, HgY.out, HxY.out⟩
    case round =>
      obtain ⟨k, hk, rfl, hgk, hxk⟩ := hrel
      have Hgk := Lib.hid hgk
      have Hxk := Lib.hid hxk
      clear hgk hxk
      by_cases hlt : k < 8
      · obtain ⟨s, hs⟩ : ∃ s, l[k]? = some s := ⟨_, List.getElem?_eq_getElem (by have := Hl8.out; omega)⟩
        have hc := blk_cell Hgk.out k (v := .string s) (by have := mixL_at hs; simp [this])
        have f0 := blk_free Hgk.out k
        have i0 : (0 : Int) ≤ (k : Int) := by omega
        have i1 : (k : Int) < 8 := by omega
        have Hs := Lib.hid hs
        clear hs
        cases hn : noneB s <;> have hn' : s.toList.isEmpty = _ := hn
        · have Hst := Lib.hid (mixL_pass Hs.out hn)
          go_wp2_with fail
          go_roundw
          case rel => exact ⟨k + 1, by omega, by go_num, by rw [← Hst.out]; exact Hgk.out, Hxk.out⟩
          case measure => simp [intOf]; omega
        · have Hst := Lib.hid (show (mixL l k).set k ⟨#[46]⟩ = mixL l (k + 1) by have := mixL_step Hs.out; unfold dotB at this; rw [hn] at this; exact this)
          go_wp2_with fail
          go_roundw
          case rel => exact ⟨k + 1, by omega, by go_num, by rw [blk_set Hgk.out, strs_set, Hst.out], Keeps.setCell Hxk.out (fun hlt => by simp at hlt; omega) _⟩
          case measure => simp [intOf]; omega
      · obtain rfl : k = 8 := by omega
        have Hfull := Lib.hid (mixL_full (l := l) (k := 8) (by have := Hl8.out; omega))
        have Hsl := Lib.hid (show Sl strR (fun _ => True) wr (some ⟨g, 0, none⟩) 8 (l.map dotB) from Sl.new_strs Hgk.out trivial (by rw [List.length_map]; exact Hl8.out) (by rw [Hfull.out]))
        obtain ⟨R, hR⟩ : ∃ R : ByteArray, R = ⟨(Lib.join ((l.map dotB).map (·.data.toList)) (ByteArray.mk #[32]).data.toList).toArray⟩ := ⟨_, rfl⟩
        have HR := Lib.hid hR
        clear hR
        go_wp2_with (go_at_call 75; refine (join_c _ 8 8 (l.map dotB) ⟨#[32]⟩ (fun _ => True) _ Hsl.out (Nat.le_refl _) (by omega) Hlen.out).mono ?_; rw [← HR.out]; rintro _ w5 ⟨rfl, hx5⟩; have Hx5 := Lib.hid hx5; clear hx5)
        go_ret
        refine ⟨?_, (Hx1.out.trans Hxk.out).trans Hx5.out⟩
        unfold fmtE
        rw [Hw.out, show (⟨(Lib.join ((l.map dotB).map (·.data.toList)) [32]).toArray⟩ : ByteArray) = R from HR.out.symm]; rfl
theorem ev_Format_yes (e : Ev) (w : World) (hsm : EvSm e) (hv : Vars w) (h : mayE e = true) :
    Calls Tryz.prog 47 #[.agg #[.string e.src, .int .i64 e.num, .int .i64 e.tick, .int .i64 e.kind, .string e.person, .string e.item, .int .i64 e.value, .string e.text]] w fun r w' => r = .returned (.string (fmtE e)) ∧ Ext w w' := by
  have hF := mayF h
  obtain ⟨src, num, tick, kind, person, item, value, text⟩ := e
  obtain ⟨kk, rfl⟩ : ∃ kk : Nat, kind = kk := ⟨kind.toNat, by have : 0 ≤ kind := hF.kind0; omega⟩
  exact ev_Format_yes' src person item text num tick value kk w hsm hv h
end Go.Proofs.YtpkkkhgmkndpdaaGreatDoor
namespace Go.Proofs.YtpkkkhgmkndpdaaGreatDoor
open Go Go.RowKit

theorem parts_join (c : UInt8) : ∀ (l : List (List UInt8)), l ≠ [] → (∀ x ∈ l, freeL c x) → partsL c (Lib.join l [c]) = l
  | [], h, _ => absurd rfl h
  | [x], _, h => by
    have : Lib.join [x] [c] = x := by simp [Lib.join, List.intercalate]
    rw [this]
    exact partsL_none (h x (by simp))
  | x :: y :: r, _, h => by
    have : Lib.join (x :: y :: r) [c] = x ++ c :: Lib.join (y :: r) [c] := by simp [Lib.join, List.intercalate]
    rw [this, partsL_hit (h x (by simp)), parts_join c (y :: r) (by simp) (fun z hz => h z (by simp [List.mem_cons.1 hz]))]
theorem join_inj {c : UInt8} {l m : List (List UInt8)} (hl : l ≠ []) (hm : m ≠ []) (fl : ∀ x ∈ l, freeL c x) (fm : ∀ x ∈ m, freeL c x) (h : Lib.join l [c] = Lib.join m [c]) : l = m := by
  rw [← parts_join c l hl fl, h, parts_join c m hm fm]
theorem nameB_free {s : ByteArray} (h : nameB s = true) : freeL 32 s.data.toList := by
  intro x hx hc
  unfold nameB at h
  simp only [Bool.and_eq_true, List.all_eq_true] at h
  have := h.2 x hx
  rw [hc] at this
  exact absurd this (by decide)
/-- A row of digits' number. -/
def digV (l : List UInt8) : Nat := l.foldl (fun a c => a * 10 + (c.toNat - 48)) 0
theorem digits_val (u : Nat) : digV (Lib.decDigits u) = u ∧ ∀ x ∈ Lib.decDigits u, 48 ≤ x.toNat ∧ x.toNat ≤ 57 := by
  induction u using Nat.strongRecOn with
  | ind u ih =>
    rw [Lib.decDigits]
    by_cases h : u < 10
    · rw [dif_pos h]
      have hz : (UInt8.ofNat (48 + u)).toNat = 48 + u := by rw [UInt8.toNat_ofNat']; omega
      exact ⟨by simp only [digV, List.foldl_cons, List.foldl_nil, hz]; omega, fun x hx => by rw [List.mem_singleton.1 hx, hz]; omega⟩
    · rw [dif_neg h]
      obtain ⟨i1, i2⟩ := ih (u / 10) (by omega)
      have hz : (UInt8.ofNat (48 + u % 10)).toNat = 48 + u % 10 := by rw [UInt8.toNat_ofNat']; omega
      refine ⟨?_, fun x hx => ?_⟩
      · unfold digV at i1 ⊢
        rw [List.foldl_append, i1]
        simp only [List.foldl_cons, List.foldl_nil, hz]; omega
      · rcases List.mem_append.1 hx with hx | hx
        · exact i2 x hx
        · rw [List.mem_singleton.1 hx, hz]; omega
theorem itoaB_inj {a b : Int} (ha : 0 ≤ a) (hb : 0 ≤ b) (h : itoaB a = itoaB b) : a = b := by
  obtain ⟨u, rfl⟩ : ∃ u : Nat, a = u := ⟨a.toNat, by omega⟩
  obtain ⟨v, rfl⟩ : ∃ v : Nat, b = v := ⟨b.toNat, by omega⟩
  have h1 : Lib.itoa (u : Int) = Lib.itoa (v : Int) := by
    have := congrArg (fun s : ByteArray => s.data.toList) h
    simpa [itoaB] using this
  rw [Lib.itoa_nonneg, Lib.itoa_nonneg] at h1
  have := (digits_val u).1
  rw [h1, (digits_val v).1] at this
  omega
theorem itoaB_free {a : Int} (ha : 0 ≤ a) : freeL 32 (itoaB a).data.toList := by
  obtain ⟨u, rfl⟩ : ∃ u : Nat, a = u := ⟨a.toNat, by omega⟩
  intro x hx hc
  have hx' : x ∈ Lib.decDigits u := by rw [← Lib.itoa_nonneg]; simpa [itoaB] using hx
  have := (digits_val u).2 x hx'
  rw [hc] at this
  exact absurd this.1 (by decide)
theorem parts_all (c : UInt8) : ∀ (l : List UInt8) (x : UInt8), x ∈ l → x = c ∨ ∃ p ∈ partsL c l, x ∈ p
  | [], _, h => by cases h
  | b :: l, x, h => by
    rw [partsL]
    by_cases hb : (b == c) = true
    · rw [if_pos hb]
      rcases List.mem_cons.1 h with rfl | h
      · exact .inl (by simpa using hb)
      · rcases parts_all c l x h with h | ⟨p, hp, hx⟩
        · exact .inl h
        · exact .inr ⟨p, by simp [hp], hx⟩
    · rw [if_neg hb]
      cases hp : partsL c l with
      | nil => exact absurd hp (parts_ne c l)
      | cons q qs =>
        rcases List.mem_cons.1 h with rfl | h
        · exact .inr ⟨x :: q, by simp, by simp⟩
        · rcases parts_all c l x h with h | ⟨p, hp', hx⟩
          · exact .inl h
          · rw [hp] at hp'
            rcases List.mem_cons.1 hp' with rfl | hp'
            · exact .inr ⟨b :: p, by simp, by simp [hx]⟩
            · exact .inr ⟨p, by simp [hp'], hx⟩
theorem labelB_free {s : ByteArray} (h : labelB s = true) : freeL 32 s.data.toList := by
  obtain ⟨h1, h2, h3, h4⟩ := label_parts h
  rcases cut_cases 59 s.data.toList with hf | ⟨a, r, hf, e⟩
  · unfold semiB at h1; rw [(cut_none hf).2.2] at h1; cases h1
  · have ha : freeL 32 a := by
      have := nameB_free h2
      unfold makerB at this
      rw [e, (cut_hit hf).1] at this
      simpa [bts] using this
    intro x hx hc
    rw [e] at hx
    rcases List.mem_append.1 hx with hx | hx
    · exact ha x hx hc
    · rcases List.mem_cons.1 hx with hx | hx
      · rw [hx] at hc; exact absurd hc (by decide)
      · have hr : r ≠ [] := fun h => by rw [h] at hx; cases hx
        rw [tagsB_some hf e hr] at h4
        rcases parts_all 44 r x hx with h | ⟨p, hp, hxp⟩
        · rw [h] at hc; exact absurd hc (by decide)
        · have := nameB_free (h4 (bts p) (List.mem_map.2 ⟨p, hp, rfl⟩))
          exact this x (by simpa [bts] using hxp) hc
/-- A text that is none, or begins with no dot, is told by what stands for it. -/
theorem dotB_free {s : ByteArray} (h : freeL 32 s.data.toList) : freeL 32 (dotB s).data.toList := by
  unfold dotB
  split
  · intro x hx hc
    simp at hx
    rw [hx] at hc
    exact absurd hc (by decide)
  · exact h
theorem noneB_eq {s : ByteArray} (h : noneB s = true) : s = ⟨#[]⟩ := by
  have := noneB_size h
  apply ByteArray.ext
  exact Array.eq_empty_of_size_eq_zero this
theorem dotB_inj {s t : ByteArray} (hs : s ≠ ⟨#[46]⟩) (ht : t ≠ ⟨#[46]⟩) (h : dotB s = dotB t) : s = t := by
  unfold dotB at h
  cases h1 : noneB s <;> cases h2 : noneB t <;> rw [h1, h2] at h <;> simp only [if_true, Bool.false_eq_true, if_false] at h
  · exact h
  · exact absurd h hs
  · exact absurd h.symm ht
  · rw [noneB_eq h1, noneB_eq h2]
theorem nameB_dot {s : ByteArray} (h : nameB s = true) : s ≠ ⟨#[46]⟩ := fun e => by rw [e] at h; exact absurd h (by decide)
theorem noneB_dot {s : ByteArray} (h : noneB s = true) : s ≠ ⟨#[46]⟩ := fun e => by rw [noneB_eq h] at e; exact absurd e (by decide)
theorem labelB_dot {s : ByteArray} (h : labelB s = true) : s ≠ ⟨#[46]⟩ := fun e => by
  have h1 := (label_parts h).1
  rw [e] at h1; exact absurd h1 (by decide)
theorem itoaB_dot {a : Int} (ha : 0 ≤ a) : itoaB a ≠ ⟨#[46]⟩ := fun e => by
  obtain ⟨u, rfl⟩ : ∃ u : Nat, a = u := ⟨a.toNat, by omega⟩
  have h1 : Lib.itoa (u : Int) = [46] := by
    have := congrArg (fun s : ByteArray => s.data.toList) e
    simpa [itoaB] using this
  rw [Lib.itoa_nonneg] at h1
  have := (digits_val u).2 46 (by rw [h1]; simp)
  exact absurd this.1 (by decide)
theorem kinds_inj : ∀ i j : Fin 15, kindsB.getD i ⟨#[]⟩ = kindsB.getD j ⟨#[]⟩ → i = j := by decide +kernel
theorem kinds_free : ∀ i : Fin 15, ∀ x ∈ (kindsB.getD i ⟨#[]⟩).data.toList, x ≠ 32 := by decide +kernel
theorem kinds_dot : ∀ i : Fin 15, kindsB.getD i ⟨#[]⟩ ≠ ⟨#[46]⟩ := by decide +kernel
theorem words_free {e : Ev} (h : mayE e = true) : ∀ x ∈ ((wordsE e).map dotB).map (·.data.toList), freeL 32 x := by
  have hF := mayF h
  intro x hx
  obtain ⟨s, hs, rfl⟩ := List.mem_map.1 hx
  obtain ⟨t, ht, rfl⟩ := List.mem_map.1 hs
  refine dotB_free ?_
  have none_free : ∀ {s : ByteArray}, noneB s = true → freeL 32 s.data.toList := fun h => by rw [noneB_eq h]; intro x hx; simp at hx
  have hk : freeL 32 (kindsB.getD e.kind.toNat ⟨#[]⟩).data.toList := kinds_free ⟨e.kind.toNat, by have := hF.kind0; have := hF.kind1; omega⟩
  simp only [wordsE, List.mem_cons, List.not_mem_nil, or_false] at ht
  rcases ht with rfl | rfl | rfl | rfl | rfl | rfl | rfl | rfl
  · exact nameB_free hF.src
  · exact itoaB_free hF.num00
  · exact itoaB_free hF.tick0
  · exact hk
  · exact hF.person.elim nameB_free none_free
  · exact hF.item.elim nameB_free none_free
  · exact itoaB_free hF.value0
  · exact hF.text.elim nameB_free (fun h => h.elim none_free labelB_free)
theorem toList_inj {s t : ByteArray} (h : s.data.toList = t.data.toList) : s = t := by
  apply ByteArray.ext
  exact Array.ext' h
/-- Who is unlike has another text. -/
theorem fmt_inj {a b : Ev} (ha : mayE a = true) (hb : mayE b = true) (h : fmtE a = fmtE b) : a = b := by
  have hA := mayF ha
  have hB := mayF hb
  have h1 : Lib.join (((wordsE a).map dotB).map (·.data.toList)) [32] = Lib.join (((wordsE b).map dotB).map (·.data.toList)) [32] := by
    have := congrArg (fun s : ByteArray => s.data.toList) h
    simpa [fmtE] using this
  have h2 := join_inj (by simp [wordsE]) (by simp [wordsE]) (words_free ha) (words_free hb) h1
  simp only [wordsE, List.map_cons, List.map_nil, List.cons.injEq, and_true] at h2
  obtain ⟨e0, e1, e2, e3, e4, e5, e6, e7⟩ := h2
  have ka : a.kind.toNat < 15 := by have := hA.kind0; have := hA.kind1; omega
  have kb : b.kind.toNat < 15 := by have := hB.kind0; have := hB.kind1; omega
  have dp : ∀ {s : ByteArray}, nameB s = true ∨ noneB s = true → s ≠ ⟨#[46]⟩ := fun h => h.elim nameB_dot noneB_dot
  have dt : ∀ {s : ByteArray}, nameB s = true ∨ noneB s = true ∨ labelB s = true → s ≠ ⟨#[46]⟩ := fun h => h.elim nameB_dot (fun h => h.elim noneB_dot labelB_dot)
  have f0 := dotB_inj (nameB_dot hA.src) (nameB_dot hB.src) (toList_inj e0)
  have f1 := itoaB_inj hA.num00 hB.num00 (dotB_inj (itoaB_dot hA.num00) (itoaB_dot hB.num00) (toList_inj e1))
  have f2 := itoaB_inj hA.tick0 hB.tick0 (dotB_inj (itoaB_dot hA.tick0) (itoaB_dot hB.tick0) (toList_inj e2))
  have f3 := kinds_inj ⟨_, ka⟩ ⟨_, kb⟩ (dotB_inj (kinds_dot ⟨_, ka⟩) (kinds_dot ⟨_, kb⟩) (toList_inj e3))
  have f3' : a.kind.toNat = b.kind.toNat := congrArg Fin.val f3
  have f3'' : a.kind = b.kind := by have := hA.kind0; have := hB.kind0; omega
  have f4 := dotB_inj (dp hA.person) (dp hB.person) (toList_inj e4)
  have f5 := dotB_inj (dp hA.item) (dp hB.item) (toList_inj e5)
  have f6 := itoaB_inj hA.value0 hB.value0 (dotB_inj (itoaB_dot hA.value0) (itoaB_dot hB.value0) (toList_inj e6))
  have f7 := dotB_inj (dt hA.text) (dt hB.text) (toList_inj e7)
  obtain ⟨_, _, _, _, _, _, _, _⟩ := a
  obtain ⟨_, _, _, _, _, _, _, _⟩ := b
  simp only at f0 f1 f2 f3'' f4 f5 f6 f7
  subst f0 f1 f2 f3'' f4 f5 f6 f7
  rfl
end Go.Proofs.YtpkkkhgmkndpdaaGreatDoor
