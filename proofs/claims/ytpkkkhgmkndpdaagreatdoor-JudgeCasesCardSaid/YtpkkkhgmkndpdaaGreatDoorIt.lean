/-
  What is proved here: slices.Values over texts, and slices.Collect of it (a range over a function). Turned to texts from a worked proof of the kit on integers (Ggi, Gge). Conditions: lengths within the model's bounds.
  cmp.Compare of texts; cmp.Or of two; the order of days (cases' closure). No condition.
  slices.Sorted of texts: a new slice of them, in order. Conditions: lengths within the model's bounds.
  maps.Keys over days, slices.Collect of it, slices.SortedFunc (ranges over a function). Turned to days from worked proofs of the kit on texts and integers. Conditions: lengths within the model's bounds.
  slices.SortedFunc of maps.Keys over days, in the order of cases. Conditions: lengths within the model's bounds.
-/
import Derived.RangeFuncNested
import Derived.RangeFuncBound
import Derived.RangeFuncCalls
import Derived.RangeFuncLeaves
import Derived.RangeFuncBox
import Derived.Shelf.Abstract
import Derived.Shelf.RegionOpen
import Derived.WalkKit
import Derived.OwnWalkIn
import Derived.TacticsInMore
import Derived.LoopNIn
import Derived.LoopIn
import Derived.Maps.AppendAt
import Derived.Test.YtpkkkhgmkndpdaaGreatDoorProg
import Derived.Test.YtpkkkhgmkndpdaaGreatDoorJuP
import Derived.Test.YtpkkkhgmkndpdaaGreatDoorEvCmp
import Derived.Shelf.SlSortCmp.WholeK
import Derived.Sort.OwnSorted
import Derived.Test.YtpkkkhgmkndpdaaGreatDoorShelf
import Derived.Test.YtpkkkhgmkndpdaaGreatDoorExJ0
import Derived.RangeFuncSeq
import Derived.RangeFuncKeeps
import Derived.Sort.LoopGhostIn
import Derived.Test.YtpkkkhgmkndpdaaGreatDoorShelfC
import Derived.Shelf.SlSortCmp.NoneTotal
namespace Go.Proofs.YtpkkkhgmkndpdaaGreatDoor
open Go Go.RowKit Go.Shelf Go.Proofs
attribute [local go_sem] Oper.semAt_some
def upS (zs : List ByteArray) (k : Nat) : List ByteArray := (List.range k).map fun j => zs[j]?.getD ⟨#[]⟩
theorem upS_succ (zs : List ByteArray) (k : Nat) : upS zs (k + 1) = upS zs k ++ [zs[k]?.getD ⟨#[]⟩] := by simp [upS, List.range_succ]
theorem upS_length (zs : List ByteArray) (k : Nat) : (upS zs k).length = k := by simp [upS]
theorem upS_all (zs : List ByteArray) : upS zs zs.length = zs := by
  apply List.ext_getElem
  · simp [upS]
  · intro i h1 h2
    simp [upS, h2]
theorem upS_take (zs : List ByteArray) {k : Nat} (hk : k ≤ zs.length) : upS zs k = zs.take k := by
  apply List.ext_getElem
  · simp [upS, hk]
  · intro i h1 h2
    have : i < zs.length := by simp [upS] at h1; omega
    simp [upS, this]
set_option maxRecDepth 100000 in
set_option maxHeartbeats 2000000 in
theorem its_values1 (F : Fence) (n : Nat) (h7 : F.fn 57) (hro : F.round = none) (hn : 1 ≤ n) (l Bs n₀ b off len cap : Nat) (zs : List ByteArray) (hreach : len * 16 ≤ 140737488351232) (hb : b < n₀) (J Jx : List ByteArray → World → Prop)
    (hY : ∀ pre x W, J pre W → pre.length < len → YieldAt F (n - 1) Tryz.prog l #[.string x] W fun e W' =>
      (e = .returned (.bool true) ∧ J (pre ++ [x]) W' ∧ Below n₀ W W') ∨ (e = .returned (.bool false) ∧ Jx (pre ++ [x]) W'))
    (W : World) (hBs : W.cell? ⟨Bs, 0, none⟩ = some (.slice (some ⟨b, off, none⟩) len cap)) (hc : ∀ j, j < len → W.cell? ⟨b, off + j, none⟩ = some (.string (zs[j]?.getD ⟨#[]⟩))) (h0 : J [] W) :
    CallsIn F n Tryz.prog 57 #[.func (.yield l) #[] #[], .pointer (some ⟨Bs, 0, none⟩)] W fun e W' => (∃ v, e = .returned v) ∧
      ((∃ ys, ys = upS zs len ∧ J ys W') ∨ (∃ pre, (∃ k, k ≤ len ∧ pre = upS zs k) ∧ Jx pre W')) := by
  refine callsIn_of_wp Tryz.func57 rfl h7 ?_ hro
  simp only [Tryz.ntmps57, List.size_toArray, List.length_cons, List.length_nil, Nat.reduceAdd, Nat.reduceSub, Array.replicate_succ, Array.replicate_zero, List.push_toArray, List.append_toArray, List.nil_append, List.cons_append]
  gi_wp2
  gi_loopw [7] (fun i wr => ∃ k : Nat, k ≤ len ∧ i = .int .i64 k ∧ J (upS zs k) wr ∧ Below n₀ W wr)
    (fun i _ => len - (intOf i).toNat)
  case atStart => exact ⟨0, Nat.zero_le _, rfl, h0, Below.refl _ _⟩
  case round =>
    obtain ⟨k, hk, rfl, hJs, hnx⟩ := hrel
    have hcx : k < len → wr.cell? ⟨b, off + k, none⟩ = some (.string (zs[k]?.getD ⟨#[]⟩)) := fun h => (hnx.cell (p := ⟨b, off + k, none⟩) hb).trans (hc k h)
    by_cases hlt : k < len
    · obtain ⟨fn, tmps, assign, body, hy, hR⟩ := hY _ (zs[k]?.getD ⟨#[]⟩) wr hJs (by rw [upS_length]; exact hlt)
      have hcx' := hcx hlt
      gi_wp2
      refine hR.mono ?_
      rintro e W3 (⟨rfl, hJ3, hk3⟩ | ⟨rfl, hJx3⟩)
      · gi_wp2
        go_roundw
        case rel => exact ⟨k + 1, by omega, by simp, by rw [upS_succ]; exact hJ3, hnx.trans hk3⟩
        case measure => simp [intOf]; omega
      · gi_wp2
        refine bodyPost_ret (results_none rfl _ _ _) rfl ?_
        exact ⟨⟨_, rfl⟩, .inr ⟨_, ⟨k + 1, by omega, (upS_succ _ _).symm⟩, hJx3⟩⟩
    · obtain rfl : k = len := by omega
      gi_wp2
      go_end0
      exact ⟨⟨_, rfl⟩, .inl ⟨_, rfl, hJs⟩⟩
set_option maxRecDepth 100000 in
set_option maxHeartbeats 1000000 in
theorem its_values1_nil (F : Fence) (n : Nat) (h7 : F.fn 57) (hro : F.round = none) (l Bs c : Nat) (J : List ByteArray → World → Prop) (W : World) (hBs : W.cell? ⟨Bs, 0, none⟩ = some (.slice none 0 c)) (h0 : J [] W) :
    CallsIn F n Tryz.prog 57 #[.func (.yield l) #[] #[], .pointer (some ⟨Bs, 0, none⟩)] W fun e W' => (∃ v, e = .returned v) ∧ J [] W' := by
  refine callsIn_of_wp Tryz.func57 rfl h7 ?_ hro
  simp only [Tryz.ntmps57, List.size_toArray, List.length_cons, List.length_nil, Nat.reduceAdd, Nat.reduceSub, Array.replicate_succ, Array.replicate_zero, List.push_toArray, List.append_toArray, List.nil_append, List.cons_append]
  gi_wp2
  gi_loopw [7] (fun i wr => i = .int .i64 0 ∧ J [] wr) (fun _ _ => 0)
  case atStart => exact ⟨rfl, h0⟩
  case round =>
    obtain ⟨rfl, hJs⟩ := hrel
    gi_wp2
    go_end0
    exact ⟨⟨_, rfl⟩, hJs⟩
set_option maxHeartbeats 1000000 in
theorem its_values (F : Fence) (n : Nat) (h5 : F.fn 32) (hro : F.round = none) (a : Option Addr) (len cap : Nat) (w : World) :
    CallsIn F n Tryz.prog 32 #[.slice a len cap] w fun e w' => e = .returned (.func (.func 57) #[] #[.pointer (some ⟨w.heap.size, 0, none⟩)]) ∧ w' = w.alloc (.cells #[.slice a len cap] 34) := by
  refine callsIn_of_wp Tryz.func32 rfl h5 ?_ hro
  simp only [Tryz.ntmps32, List.size_toArray, List.length_cons, List.length_nil, Nat.reduceAdd, Nat.reduceSub, Array.replicate_succ, Array.replicate_zero, List.push_toArray, List.append_toArray, List.nil_append, List.cons_append]
  gi_wp2
  go_ret
  exact ⟨rfl, rfl⟩
/-- The texts zs, in a block below n₀; or there are none. -/
def TextsIn (n₀ : Nat) (W : World) (sv : Value) (zs : List ByteArray) : Prop :=
  ((∃ c, sv = .slice none 0 c) ∧ zs = []) ∨ ∃ b off cap, sv = .slice (some ⟨b, off, none⟩) zs.length cap ∧ b < n₀ ∧ ∀ j, j < zs.length → W.cell? ⟨b, off + j, none⟩ = some (.string (zs[j]?.getD ⟨#[]⟩))
theorem TextsIn.below {n₀ : Nat} {A B : World} (h : Below n₀ A B) {sv : Value} {zs : List ByteArray} : TextsIn n₀ A sv zs → TextsIn n₀ B sv zs
  | .inl e => .inl e
  | .inr ⟨b, off, cap, e, hb, hc⟩ => .inr ⟨b, off, cap, e, hb, fun j hj => (h.cell (p := ⟨b, off + j, none⟩) hb).trans (hc j hj)⟩
theorem its_stops (F : Fence) (n : Nat) (h7 : F.fn 57) (hro : F.round = none) (hn : 1 ≤ n) (Bs n₀ : Nat) (sv : Value) (zs : List ByteArray) (hreach : zs.length * 16 ≤ 140737488351232) (w : World) (hBs : Bs < w.heap.size) (hn₀ : n₀ ≤ w.heap.size)
    (hc : w.cell? ⟨Bs, 0, none⟩ = some sv) (hI : TextsIn n₀ w sv zs) :
    SeqStopsK F n Tryz.prog 57 #[.pointer (some ⟨Bs, 0, none⟩)] (fun x : ByteArray => #[Value.string x]) (Below n₀) (fun ys => ys = zs) (fun pre => pre <+: zs) zs.length w := fun l J Jx W hW _ _ hY h0 => by
  have hc' := (hW.cell (p := ⟨Bs, 0, none⟩) hBs).trans hc
  rcases hI.below (hW.mono hn₀) with ⟨⟨c, rfl⟩, rfl⟩ | ⟨b, off, cap, rfl, hb, hcs⟩
  · exact (its_values1_nil F n h7 hro l Bs c J W hc' h0).mono fun e W' ⟨he, hj⟩ => ⟨he, .inl ⟨_, rfl, hj⟩⟩
  · refine (its_values1 F n h7 hro hn l Bs n₀ b off zs.length cap zs hreach hb J Jx hY W hc' hcs h0).mono ?_
    rintro e W' ⟨he, ⟨ys, rfl, hj⟩ | ⟨pre, ⟨k, hk, rfl⟩, hj⟩⟩
    · exact ⟨he, .inl ⟨_, upS_all zs, hj⟩⟩
    · exact ⟨he, .inr ⟨_, by rw [upS_take zs hk]; exact List.take_prefix _ _, hj⟩⟩
theorem its_info : (Tryz.prog.info? 9).map (fun i => (i.zero, i.size, i.bytes)) = some (some (.string ⟨#[]⟩), 1, 16) := by kernel_rfl
set_option maxRecDepth 100000 in
set_option maxHeartbeats 2000000 in
theorem its_AppendSeq (F : Fence) (n : Nat) (h3 : F.fn 88) (h5 : F.fn 57) (hro : F.round = none) (hn : 3 ≤ n) (Bs n₀ : Nat) (sv : Value) (zs : List ByteArray) (hlen : zs.length ≤ 1048576) (w : World) (hBs : Bs < w.heap.size) (hn₀ : n₀ ≤ w.heap.size)
    (hc : w.cell? ⟨Bs, 0, none⟩ = some sv) (hI : TextsIn n₀ w sv zs) :
    CallsIn F n Tryz.prog 88 #[.slice none 0 0, .func (.func 57) #[] #[.pointer (some ⟨Bs, 0, none⟩)]] w fun e W' => ∃ v, e = .returned v ∧ W'.ownsRow w.heap.size 9 1 v zs.length (zs.map Value.string) ∧ Below w.heap.size w W' := by
  have h1 : 1 ≤ n := by omega
  have hmx : (1048576 : Nat) ≤ maxLen := by decide
  obtain ⟨i0, hi, hz0, hz1, hz2⟩ := info_parts its_info
  refine callsIn_of_wp_marks Tryz.func88 rfl h3 ?_ hro
  simp only [Tryz.ntmps88, List.size_toArray, List.length_cons, List.length_nil, Nat.reduceAdd, Nat.reduceSub, Array.replicate_succ, Array.replicate_zero, List.push_toArray, List.append_toArray, List.nil_append, List.cons_append]
  gi_wp2
  have bO := Boxed.new w 34 (.slice none 0 0)
  have hB0 : Below w.heap.size w (w.alloc (.cells #[.slice none 0 0] 34)) := (Below.refl _ w).alloc (Nat.le_refl _) _
  refine wpIn_rangeFunc_ownG hro h1 (gf := 57) (lb := #[.pointer (some ⟨Bs, 0, none⟩)]) rfl h5 (enters_of Tryz.func57 (by kernel_rfl) rfl)
    (its_stops F (n - 1) h5 hro (by omega) Bs n₀ sv zs (by omega) _ (by simp; omega) (by simp; omega) ((hB0.cell (p := ⟨Bs, 0, none⟩) hBs).trans hc) (hI.below (hB0.mono hn₀))) belowK_t (belowK_b (by simp; omega)) (Below.refl _ _) (fun _ => rfl)
    (fun pre W => (∃ v, Boxed W w.heap.size 34 v ∧ W.ownsRow w.heap.size 9 1 v pre.length (pre.map Value.string) ∧ (v = .slice none 0 0 ↔ pre = [])) ∧ Below w.heap.size w W)
    (fun _ _ _ => False)
    (OwnFrom.and (Own.from (holdsRow_own w.heap.size w.heap.size 34 9 1 (fun pre => pre.length) (fun pre => pre.map Value.string) (fun pre v => v = .slice none 0 0 ↔ pre = [])) _) (ownFrom_below (Nat.le_refl _) (by simp)))
    (fun _ _ _ _ _ hs _ _ => hs)
    ⟨⟨_, bO, World.ownsRow_nil _ _ _ _, by simp⟩, hB0⟩
    (fun x => { tmps := #[.slice none 0 0, .func (.func 57) #[] #[.pointer (some ⟨Bs, 0, none⟩)], .pointer (some ⟨w.heap.size, 0, none⟩), undef, .slice none 0 0, .string x, .func (.func 57) #[] #[.pointer (some ⟨Bs, 0, none⟩)], .string x, undef, undef, undef, undef, undef], defers := [] }) ?assign ?body ?done ?stop
  case assign =>
    intro l x W K hK
    gi_wp2
    exact hK
  case body =>
    rintro l pre x W ⟨⟨v, hv, hrow, hnil⟩, hB⟩ hlt
    have hc := hv.cell
    gi_wp2_with (gi_at_builtin; refine wpListIn_append_own _ rfl _ _ 34 rfl w.heap.size 9 i0 (.string ⟨#[]⟩) 1 16 Tryz.underlying34 hi hz0 hz1 hz2 rfl (by decide) _ _ _ rfl (hrow.alloc _) ⟨W.heap.size, 0, none⟩ 1 1 [.string x] rfl rfl (cell_one_new _ _ _) (by simp [Value.oneCell']) (by omega) (by omega) (by have := hB.size; simp; omega) ?_; intro v' w1 hown' hgrow _; obtain ⟨g', cap', rfl⟩ := ownsRow_succ hown'; obtain ⟨hv1, hv2, hr2, hk2, hb2⟩ := hv.appended (by decide) hrow hB.size (Nat.le_refl _) hown' hgrow; have hc1 := hv1.cell; have hf1 := hv1.frozen)
    have hB2 := hb2.mono hn₀
    exact ⟨hk2.from _, hB2, ⟨_, hv2, by simpa using hr2, by simp⟩, hB.trans hb2⟩
  case done =>
    rintro D ys W hD rfl ⟨⟨v, hv, hrow, hnil⟩, hB⟩ hK
    have hc := hv.cell
    gi_wp2
    refine ⟨by simp, .inl ⟨_, _, rfl, run_takeDeferred hK, ?_⟩⟩
    exact ⟨_, results_tmp rfl _ _ _, v, rfl, ownsRow_putObj hrow _ hK rfl, hB.trans (belowK_b (w := w) (Nat.le_refl _) W D _ _ (by simp at hD; omega) hK rfl rfl)⟩
  case stop =>
    rintro D c pre W _ _ h _
    exact h.elim
set_option maxHeartbeats 1000000 in
theorem its_Collect (F : Fence) (n : Nat) (h8 : F.fn 55) (h3 : F.fn 88) (h5 : F.fn 57) (hro : F.round = none) (hn : 4 ≤ n) (Bs n₀ : Nat) (sv : Value) (zs : List ByteArray) (hlen : zs.length ≤ 1048576) (w : World) (hBs : Bs < w.heap.size) (hn₀ : n₀ ≤ w.heap.size)
    (hc : w.cell? ⟨Bs, 0, none⟩ = some sv) (hI : TextsIn n₀ w sv zs) :
    CallsIn F n Tryz.prog 55 #[.func (.func 57) #[] #[.pointer (some ⟨Bs, 0, none⟩)]] w fun e W' => ∃ v, e = .returned v ∧ W'.ownsRow w.heap.size 9 1 v zs.length (zs.map Value.string) ∧ Below w.heap.size w W' := by
  have h1 : 1 ≤ n := by omega
  refine callsIn_of_wp Tryz.func55 rfl h8 ?_ hro
  simp only [Tryz.ntmps55, List.size_toArray, List.length_cons, List.length_nil, Nat.reduceAdd, Nat.reduceSub, Array.replicate_succ, Array.replicate_zero, List.push_toArray, List.append_toArray, List.nil_append, List.cons_append]
  gi_wp2_with (gi_at_call 88; refine (its_AppendSeq F (n - 1) h3 h5 hro (by omega) Bs n₀ sv zs hlen w hBs hn₀ hc hI).mono ?_; rintro e w' ⟨v, rfl, hrow, hb⟩)
  go_ret
  exact ⟨v, rfl, hrow, hb⟩
end Go.Proofs.YtpkkkhgmkndpdaaGreatDoor
namespace Go.Proofs.YtpkkkhgmkndpdaaGreatDoor
open Go Go.RowKit Go.Proofs Go.Shelf Go.Lib Go.Sort
attribute [local go_sem ↓] Go.wp_at_zero Go.wp_at_succ
theorem gtr_str (t : TypeId) (a b : ByteArray) : binOp .gtr t (.string a) (.string b) = pure (.bool !(Op.bytesLess a.toList b.toList || a.toList == b.toList)) := by simp [binOp, Op.stringOp]
attribute [local go_sem] gtr_str
set_option maxRecDepth 100000 in
set_option maxHeartbeats 2000000 in
theorem cmp_Compare_str (x y : ByteArray) (w : World) :
    Calls Tryz.prog 30 #[.string x, .string y] w fun r w' => r = .returned (.int .i64 (cmpS x y)) ∧ w = w' := by
  have h0 : ∀ (s : ByteArray) (W : World), Calls Tryz.prog 54 #[.string s] W (fun r w' => r = .returned (.bool false) ∧ W = w') := fun s W => by
    go_enter Tryz.func54, Tryz.ntmps54
    go_wp2_with fail
    go_ret
    exact ⟨rfl, rfl⟩
  have H0 := Lib.hid h0
  have he : (x.toList == y.toList) = (x == y) := (beq_toListBytes x y).symm
  rcases cmpS_cases x y with ⟨h1, h2, _, _⟩ | ⟨h1, h2, _, h4⟩ | ⟨h1, h2, _, h4⟩
  · have Hz := Lib.hid h1
    have h2' : Op.bytesLess x.toList y.toList = true := h2
    clear h0 h1 h2 he
    go_enter Tryz.func30, Tryz.ntmps30
    go_wp2_with (go_at_call 54; refine (H0.out _ _).mono ?_; rintro _ _ ⟨rfl, rfl⟩)
    go_ret
    exact ⟨by rw [Hz.out]; rfl, rfl⟩
  · have Hz := Lib.hid h1
    have h2' : Op.bytesLess x.toList y.toList = false := h2
    have h3' : (x.toList == y.toList) = true := by rw [he, h4]; exact beqB_self y
    clear h0 h1 h2 he h4
    go_enter Tryz.func30, Tryz.ntmps30
    go_wp2_with (go_at_call 54; refine (H0.out _ _).mono ?_; rintro _ _ ⟨rfl, rfl⟩)
    go_ret
    exact ⟨by rw [Hz.out]; rfl, rfl⟩
  · have Hz := Lib.hid h1
    have h2' : Op.bytesLess x.toList y.toList = false := h2
    have h3' : (x.toList == y.toList) = false := by rw [he, Bool.eq_false_iff]; intro h9; exact h4 (beqB_iff.1 h9)
    clear h0 h1 h2 he h4
    go_enter Tryz.func30, Tryz.ntmps30
    go_wp2_with (go_at_call 54; refine (H0.out _ _).mono ?_; rintro _ _ ⟨rfl, rfl⟩)
    go_ret
    exact ⟨by rw [Hz.out]; rfl, rfl⟩
def or2 (x y : Int) : Int := if x ≠ 0 then x else y
set_option maxRecDepth 100000 in
set_option maxHeartbeats 2000000 in
theorem cmp_Or2 (g : Nat) (x y : Int) (t : TypeId) (fr : Nat × Nat) (w : World) (hg : w.heap[g]? = some (.cells #[.int .i64 x, .int .i64 y] t fr)) :
    Calls Tryz.prog 28 #[.slice (some ⟨g, 0, none⟩) 2 2] w fun e w' => e = .returned (.int .i64 (or2 x y)) ∧ w = w' := by
  have q0 := blk_cell hg 0 rfl
  have q1 := blk_cell hg 1 rfl
  clear hg
  cases h1 : (x != 0)
  · have hx : x = 0 := by simpa using h1
    have Hf := Lib.hid (show or2 x y = y by unfold or2; rw [if_neg (by simpa using hx)])
    cases h2 : (y != 0)
    · have hy : y = 0 := by simpa using h2
      have Hy := Lib.hid hy
      clear hx hy
      go_enter Tryz.func28, Tryz.ntmps28
      go_wp2_with fail
      go_loop [8] (fun i => i = .int .i64 0 ∨ i = .int .i64 1 ∨ i = .int .i64 2) (fun i => 2 - (intOf i).toNat)
      case atStart => exact .inl rfl
      case round =>
        rcases hrel with rfl | rfl | rfl
        · go_wp2_with fail
          go_round
          case rel => exact .inr (.inl rfl)
          case measure => simp [intOf]
        · go_wp2_with fail
          go_round
          case rel => exact .inr (.inr rfl)
          case measure => simp [intOf]
        · go_wp2_with fail
          go_ret
          exact ⟨by rw [Hf.out, Hy.out]; rfl, rfl⟩
    · clear hx
      go_enter Tryz.func28, Tryz.ntmps28
      go_wp2_with fail
      go_loop [8] (fun i => i = .int .i64 0 ∨ i = .int .i64 1) (fun i => 2 - (intOf i).toNat)
      case atStart => exact .inl rfl
      case round =>
        rcases hrel with rfl | rfl
        · go_wp2_with fail
          go_round
          case rel => exact .inr rfl
          case measure => simp [intOf]
        · go_wp2_with fail
          go_ret
          exact ⟨by rw [Hf.out]; rfl, rfl⟩
  · have Hf := Lib.hid (show or2 x y = x by unfold or2; rw [if_pos (by simpa using h1)])
    go_enter Tryz.func28, Tryz.ntmps28
    go_wp2_with fail
    go_loop [8] (fun i => i = .int .i64 0) (fun i => 2 - (intOf i).toNat)
    case atStart => rfl
    case round =>
      obtain rfl := hrel
      go_wp2_with fail
      go_ret
      exact ⟨by rw [Hf.out]; rfl, rfl⟩
/-- What the order of days tells. -/
def cmpD (a b : Idt) : Int := or2 (Lib.compareInt a.2 b.2) (cmpS a.1 b.1)
theorem cmpInt_cases (x y : Int) : (Lib.compareInt x y = -1 ∧ x < y) ∨ (Lib.compareInt x y = 0 ∧ x = y) ∨ (Lib.compareInt x y = 1 ∧ y < x) := by
  unfold Lib.compareInt
  rcases Int.lt_trichotomy x y with h | h | h
  · left; simp [h]
  · right; left; subst h; simp
  · right; right
    refine ⟨?_, h⟩
    rw [if_neg (by simp; omega), if_pos (by simp; omega)]
theorem cmpD_lt (a b : Idt) : ltOf cmpD a b = dayLt a b := by
  unfold ltOf
  rw [Bool.eq_iff_iff, decide_eq_true_eq, dayLt_iff]
  unfold cmpD or2
  rcases cmpInt_cases a.2 b.2 with ⟨h, h2⟩ | ⟨h, h2⟩ | ⟨h, h2⟩
  · rw [h, if_pos (by decide)]
    exact ⟨fun _ => .inl h2, fun _ => by decide⟩
  · rw [h, if_neg (by decide)]
    rcases cmpS_cases a.1 b.1 with ⟨k, k2, k3, _⟩ | ⟨k, k2, k3, _⟩ | ⟨k, k2, k3, _⟩
    · rw [k]; exact ⟨fun _ => .inr ⟨h2, k2⟩, fun _ => by decide⟩
    · rw [k]; exact ⟨fun h9 => absurd h9 (by decide), fun h9 => by rcases h9 with h9 | ⟨_, h9⟩; omega; rw [k2] at h9; cases h9⟩
    · rw [k]; exact ⟨fun h9 => absurd h9 (by decide), fun h9 => by rcases h9 with h9 | ⟨_, h9⟩; omega; rw [k2] at h9; cases h9⟩
  · rw [h, if_pos (by decide)]
    exact ⟨fun h9 => absurd h9 (by decide), fun h9 => by rcases h9 with h9 | ⟨h9, _⟩ <;> omega⟩
theorem cmpD_swo : SWO (ltOf cmpD) where
  irrefl x := by rw [cmpD_lt]; exact Swo.irr dayLt_swo x
  trans x y z h1 h2 := by
    rw [cmpD_lt] at *
    cases h3 : dayLt x z with
    | true => rfl
    | false =>
      have h4 := dayLt_swo.asym h2
      have := dayLt_swo.ntrans h3 h4
      rw [h1] at this; cases this
  ntrans x y z h1 h2 := by
    rw [cmpD_lt] at *
    exact dayLt_swo.ntrans h1 h2
set_option maxRecDepth 100000 in
set_option maxHeartbeats 4000000 in
theorem day_closure (a b : Idt) (w : World) : Calls Tryz.prog 27 #[.agg #[.string a.1, .int .i64 a.2], .agg #[.string b.1, .int .i64 b.2]] w fun e w' => e = .returned (.int .i64 (cmpD a b)) ∧ ∃ q os', w' = grow (w.drewN q) os' := by
  obtain ⟨c1, hc1⟩ : ∃ c, c = Lib.compareInt a.2 b.2 := ⟨_, rfl⟩
  obtain ⟨c2, hc2⟩ : ∃ c, c = cmpS a.1 b.1 := ⟨_, rfl⟩
  have Hf := Lib.hid (show cmpD a b = or2 c1 c2 by unfold cmpD; rw [hc1, hc2])
  have C1 := Lib.hid (fun W : World => show Calls Tryz.prog 29 #[.int .i64 a.2, .int .i64 b.2] W (fun r w' => r = .returned (.int .i64 c1) ∧ W = w') by rw [hc1]; exact (Tryz.cmp_Compare_int a.2 b.2 W).mono fun _ _ ⟨h1, h2⟩ => ⟨h1, h2.symm⟩)
  have C2 := Lib.hid (fun W : World => show Calls Tryz.prog 30 #[.string a.1, .string b.1] W (fun r w' => r = .returned (.int .i64 c2) ∧ W = w') by rw [hc2]; exact cmp_Compare_str a.1 b.1 W)
  clear hc1 hc2
  go_enter Tryz.func27, Tryz.ntmps27
  go_wp2_with fail
  obtain ⟨X, hX⟩ : ∃ X, X = (w.alloc (.cells #[.string a.1, .int .i64 a.2] 67)).alloc (.cells #[.string b.1, .int .i64 b.2] 67) := ⟨_, rfl⟩
  have HX := Lib.hid hX
  rw [← hX]
  have ga : X.heap[w.heap.size]? = some (.cells #[.string a.1, .int .i64 a.2] 67) := by rw [hX]; exact blk_old (blk_new _ _) _
  have gb : X.heap[w.heap.size + 1]? = some (.cells #[.string b.1, .int .i64 b.2] 67) := by
    rw [hX]
    have := blk_new (w.alloc (.cells #[.string a.1, .int .i64 a.2] 67)) (.cells #[.string b.1, .int .i64 b.2] 67)
    simpa using this
  have s1 : w.heap.size < X.heap.size := (Array.getElem?_eq_some_iff.1 ga).1
  have s2 : w.heap.size + 1 < X.heap.size := (Array.getElem?_eq_some_iff.1 gb).1
  have a0 := blk_cell ga 0 rfl
  have a1 := blk_cell ga 1 rfl
  have b0 := blk_cell gb 0 rfl
  have b1 := blk_cell gb 1 rfl
  clear hX ga gb
  go_region_held3 (fun w' => X.heap.size ≤ w'.heap.size ∧ ∀ p : Addr, p.block < X.heap.size → w'.cell? p = X.cell? p) (repeat (first | with_reducible assumption | with_reducible exact Old.refl _ | with_reducible refine Old.drew ?_ | with_reducible refine Old.alloc ?_ _)) (first
    | (go_at_call 29; (with_reducible refine (C1.out _).mono ?_); rintro _ _ ⟨rfl, rfl⟩)
    | (go_at_call 30; (with_reducible refine (C2.out _).mono ?_); rintro _ _ ⟨rfl, rfl⟩)
    | (go_at_call 28; refine (cmp_Or2 X.heap.size c1 c2 _ _ _ (by exact blk_new X _)).mono ?_; rintro _ _ ⟨rfl, rfl⟩))
  go_wp2_with fail
  go_ret
  refine ⟨by rw [Hf.out]; rfl, 1, #[.cells #[.string a.1, .int .i64 a.2] 67, .cells #[.string b.1, .int .i64 b.2] 67, .cells #[.int .i64 c1, .int .i64 c2] 3], ?_⟩
  rw [HX.out]
  simp only [alloc_eq_grow, grow_grow]
  rfl
end Go.Proofs.YtpkkkhgmkndpdaaGreatDoor
namespace Go.Proofs.YtpkkkhgmkndpdaaGreatDoor
open Go Go.RowKit Go.Shelf Go.Proofs Go.Lib Go.Sort
attribute [local go_sem] Oper.semAt_some
theorem srt_unique : ∀ {l m : List ByteArray}, Srt ltB l → Srt ltB m → l.Perm m → l = m
  | [], [], _, _, _ => rfl
  | [], y :: m, _, _, h => by have := h.length_eq; simp at this
  | x :: l, [], _, _, h => by have := h.length_eq; simp at this
  | x :: l, y :: m, hl, hm, h => by
    obtain ⟨l1, l2⟩ := List.pairwise_cons.1 hl
    obtain ⟨m1, m2⟩ := List.pairwise_cons.1 hm
    have hxy : x = y := by
      rcases List.mem_cons.1 (h.mem_iff.1 (by simp : x ∈ x :: l)) with e | e
      · exact e
      · rcases List.mem_cons.1 (h.mem_iff.2 (by simp : y ∈ y :: m)) with e' | e'
        · exact e'.symm
        · have h1 := m1 x e
          have h2 := l1 y e'
          rcases cmpS_cases x y with ⟨_, k2, _, _⟩ | ⟨_, _, _, k4⟩ | ⟨_, _, k3, _⟩
          · rw [h1] at k2; cases k2
          · exact k4
          · rw [h2] at k3; cases k3
    subst hxy
    rw [srt_unique l2 m2 (List.Perm.cons_inv h)]
theorem le_str (x y : List UInt8) : decide (x ≤ y) = !(Op.bytesLess y x) := by
  rw [bytesLess_eq]
  by_cases h : y < x
  · rw [decide_eq_true h, decide_eq_false (by simpa [List.not_le] using h)]; rfl
  · rw [decide_eq_false h, decide_eq_true (by simpa [List.not_lt] using h)]; rfl
theorem sort_strs (zs : List ByteArray) : ((zs.map (fun s => s.data.toList)).mergeSort (fun x y => decide (x ≤ y))).map (fun l => (⟨l.toArray⟩ : ByteArray)) = sortL ltB zs := by
  obtain ⟨h1, h2⟩ := sortL_ok ltB_swo zs
  refine srt_unique ?_ h1 ?_
  · have hs := List.pairwise_mergeSort (le := fun x y : List UInt8 => decide (x ≤ y)) (fun a b c h1 h2 => by simp only [decide_eq_true_eq] at *; exact List.le_trans h1 h2) (fun a b => by simp only [Bool.or_eq_true, decide_eq_true_eq]; exact List.le_total a b) (zs.map (fun s => s.data.toList))
    unfold Srt
    rw [List.pairwise_map]
    refine hs.imp fun {a b} h => ?_
    rw [le_str] at h
    unfold ltB
    rw [ByteArray.toList_eq, ByteArray.toList_eq]
    simpa using h
  · have hp := (List.mergeSort_perm (zs.map (fun s => s.data.toList)) (fun x y => decide (x ≤ y))).map (fun l => (⟨l.toArray⟩ : ByteArray))
    rw [List.map_map] at hp
    have he : zs.map ((fun l => (⟨l.toArray⟩ : ByteArray)) ∘ fun s => s.data.toList) = zs := by
      conv => rhs; rw [← List.map_id zs]
      apply List.map_congr_left
      intro s _
      simp
    rw [he] at hp
    exact hp.trans h2.perm
theorem flat_one : ∀ l : List ByteArray, (l.map (fun s => [Value.string s])).flatten = l.map Value.string
  | [] => rfl
  | a :: l => by rw [List.map_cons, List.flatten_cons, flat_one l]; rfl
theorem own_of_strs {t : TypeId} {ok : Nat → Prop} {w : World} {base n : Nat} {v : Value} {l : List ByteArray} (h : w.ownsRow base t 1 v n (l.map Value.string)) (hl : l.length = n) : Own strR t ok w base v n l := by
  refine ⟨hl, l.map (fun s => [Value.string s]), ?_, by simpa using hl, fun k a xs ha hx => ?_⟩
  · rw [flat_one]; exact h
  · rw [List.getElem?_map, ha] at hx
    simp at hx
    subst hx
    rfl
theorem map_enc (l : List (List UInt8)) : l.map encStr = (l.map (fun l => (⟨l.toArray⟩ : ByteArray))).map Value.string := by rw [List.map_map]; rfl
theorem map_dec (zs : List ByteArray) : (zs.map (fun s => s.data.toList)).map encStr = zs.map Value.string := by
  rw [List.map_map]
  apply List.map_congr_left
  intro s _
  simp [encStr]
set_option maxRecDepth 100000 in
set_option maxHeartbeats 2000000 in
theorem its_Sorted (Bs n₀ : Nat) (sv : Value) (zs : List ByteArray) (hlen : zs.length ≤ 1048576) (w : World) (hBs : Bs < w.heap.size) (hn₀ : n₀ ≤ w.heap.size) (hc : w.cell? ⟨Bs, 0, none⟩ = some sv) (hI : TextsIn n₀ w sv zs) :
    Calls Tryz.prog 31 #[.func (.func 57) #[] #[.pointer (some ⟨Bs, 0, none⟩)]] w fun e w' => ∃ (A : Option Addr) (c : Nat), e = .returned (.slice A zs.length c) ∧ Own strR 9 (fun _ => True) w' w.heap.size (.slice A zs.length c) zs.length (sortL ltB zs) ∧ Ext w w' := by
  have hsl : (sortL ltB zs).length = zs.length := (sortL_ok ltB_swo zs).2.perm.length_eq.symm
  refine (callsIn_wide (n := 6)).1 ?_
  have h50 : Fence.wide.fn 55 := trivial
  have h51 : Fence.wide.fn 56 := trivial
  refine callsIn_of_wp Tryz.func31 rfl trivial ?_ rfl
  simp only [Tryz.ntmps31, List.size_toArray, List.length_cons, List.length_nil, Nat.reduceAdd, Nat.reduceSub, Array.replicate_succ, Array.replicate_zero, List.push_toArray, List.append_toArray, List.nil_append, List.cons_append]
  gi_wp2_with (gi_at_call 55; refine (its_Collect Fence.wide 5 trivial trivial trivial rfl (by omega) Bs n₀ sv zs hlen w hBs hn₀ hc hI).mono ?_; rintro e W ⟨v, rfl, hrow, hb⟩)
  have Hsl := Lib.hid hsl
  rcases hrow.2 with ⟨rfl, hz⟩ | ⟨gb, cap, cur, rfl, hbase, hgb, r1, r2, r3, r4⟩
  · have hzs : zs = [] := List.eq_nil_of_length_eq_zero hz
    subst hzs
    have hcon : CallsIn Fence.wide 5 Tryz.prog 56 #[.slice none 0 0] W _ := callsIn_wide.2 (Tryz.slices_Sort_string_none none 0 W)
    have Hx := Lib.hid (Ext.of_below hb)
    clear hrow hb hsl
    gi_wp2_with (gi_at_call 56; refine hcon.mono ?_; rintro e w' ⟨rfl, rfl⟩)
    go_ret
    exact ⟨none, 0, rfl, Own.nil_, Hx.out⟩
  · have r4' : cur.toList.take (zs.map (fun s => s.data.toList)).length = (zs.map (fun s => s.data.toList)).map encStr := by
      rw [map_dec]
      simpa using r4
    have hH := holds_of_block hgb r4'
    have hgl : gb < W.heap.size := (Array.getElem?_eq_some_iff.1 hgb).1
    have hcon0 := Tryz.slices_Sort_string gb 0 cap (zs.map (fun s => s.data.toList)) W hH hgl (by simp; omega)
    rw [List.length_map] at hcon0
    have hcon : CallsIn Fence.wide 5 Tryz.prog 56 #[.slice (some ⟨gb, 0, none⟩) zs.length cap] W _ := callsIn_wide.2 hcon0
    have Hb := Lib.hid hb
    have Hs := Lib.hid (fun (n : Nat) (os : Array Obj) => ownsRow_sorted (n := n) (os := os) (ss := zs.map (fun s => s.data.toList)) (ts := (zs.map (fun s => s.data.toList)).mergeSort (fun x y => decide (x ≤ y))) (by simp) hbase hgb (by simpa using r1) r2 r3)
    have Hbase := Lib.hid hbase
    clear hrow hb hH hcon0 hgb r1 r2 r3 r4 r4' hsl hI
    gi_wp2_with (gi_at_call 56; refine hcon.mono ?_; rintro e w' ⟨rfl, nn, os, rfl⟩)
    go_ret
    refine ⟨_, _, rfl, ?_, Keeps.grown (Ext.of_below Hb.out) (grownBy_sorted _) (fun k e hk => by cases e; have := Hbase.out; omega)⟩
    have h9 := Hs.out nn os
    rw [List.length_map, map_enc, sort_strs] at h9
    exact own_of_strs h9 Hsl.out
end Go.Proofs.YtpkkkhgmkndpdaaGreatDoor
namespace Go.Proofs.YtpkkkhgmkndpdaaGreatDoor
open Go Go.RowKit Go.Shelf Go.Proofs
attribute [local go_sem] Oper.semAt_some
theorem Iter.walks {P : Program} {kt : TypeId} {κ β : Type} {K : MK P kt κ} {V : β → Value} {w w' : World} {r b : Nat} {l : List (κ × β)} {ds : List κ} (h : Iter K V w r b l ds) (hk : KeepsWalks w w') : Iter K V w' r b l ds := by
  obtain ⟨es, clock, since, c0, seen, hb, hs, he, hr, rest⟩ := h
  exact ⟨es, clock, since, c0, seen, hk.same _ _ hb rfl, hs, he, hk.same _ _ hr rfl, rest⟩
theorem Iter.walk {P : Program} {kt : TypeId} {κ β : Type} {K : MK P kt κ} {V : β → Value} {w : World} {r b : Nat} {l : List (κ × β)} {ds : List κ} (h : Iter K V w r b l ds) : ∃ o : Obj, w.heap[r]? = some o ∧ o.isWalk = true := by
  obtain ⟨es, clock, since, c0, seen, hb, hs, he, hr, rest⟩ := h
  exact ⟨_, hr, rfl⟩
theorem grown_of_keeps {w w' : World} {r : Nat} (h : Keeps (fun i => i ≠ r) w w') : w.grownBy w' (some r) :=
  ⟨h.os, h.tape, h.output, h.size, fun k hk hn => h.block k hk (fun e => hn (by rw [e]))⟩
theorem grown_alloc (w : World) (o : Obj) : w.grownBy (w.alloc o) none := ⟨rfl, rfl, rfl, by simp, fun k hk _ => Below.heap_alloc _ _ k hk⟩
set_option maxRecDepth 100000 in
set_option maxHeartbeats 2000000 in
theorem itd_keys1 {β : Type} (V : β → Value) (F : Fence) (n : Nat) (h7 : F.fn 52) (hro : F.round = none) (hn : 1 ≤ n) (l Bm b : Nat) (L : List (Idt × β)) (J Jx : List Idt → World → Prop) (W : World) (hJ : AbidesFrom W.heap.size J)
    (hY : ∀ pre x W1, J pre W1 → pre.length < L.length → YieldAt F (n - 1) Tryz.prog l #[idV x] W1 fun e W' =>
      (e = .returned (.bool true) ∧ J (pre ++ [x]) W' ∧ KeepsWalks W1 W') ∨ (e = .returned (.bool false) ∧ Jx (pre ++ [x]) W'))
    (hm : W.cell? ⟨Bm, 0, none⟩ = some (.map (some b))) (hmp : Mp (idK dayT) V W b L) (h0 : J [] W) :
    CallsIn F n Tryz.prog 52 #[.func (.yield l) #[] #[], .pointer (some ⟨Bm, 0, none⟩)] W fun e W' => (∃ v, e = .returned v) ∧
      ((∃ ys, (ys.Nodup ∧ ∀ x, x ∈ ys ↔ x ∈ L.map (·.1)) ∧ J ys W') ∨ (∃ pre, Jx pre W')) := by
  obtain ⟨w6, hR, hIt, hx6⟩ := hmp.range Tryz.underlying63
  have hJ6 : J [] w6 := hJ [] W w6 none h0 ⟨hx6.os, hx6.tape, hx6.output, hx6.size, fun k hk _ => hx6.block k hk trivial⟩ (fun r e => by cases e)
  obtain ⟨gi, hgi⟩ : ∃ g, g = W.heap.size := ⟨_, rfl⟩
  have hgW : W.heap.size ≤ gi := by omega
  rw [← hgi] at hIt hR
  have HIt := Lib.hid hIt
  have HJ6 := Lib.hid hJ6
  have HJ := Lib.hid hJ
  have HY := Lib.hid hY
  clear hgi hIt hJ6 hJ hY hx6
  refine callsIn_of_wp Tryz.func52 rfl h7 ?_ hro
  simp only [Tryz.ntmps52, List.size_toArray, List.length_cons, List.length_nil, Nat.reduceAdd, Nat.reduceSub, Array.replicate_succ, Array.replicate_zero, List.push_toArray, List.append_toArray, List.nil_append, List.cons_append]
  gi_wp2
  gi_loopg [3] L.length (fun g _ wr => ∃ ds : List Idt, g = L.length - ds.length ∧ Iter (idK dayT) V wr gi b L ds ∧ J ds wr)
  case atStart => exact ⟨[], rfl, HIt.out, HJ6.out⟩
  case round =>
    obtain ⟨ds, hgk, hit, hJs⟩ := hrel
    have Hgk := Lib.hid hgk
    have hnd := hit.nd
    have hel : ds.length ≤ L.length := by
      have := nodup_sub_len _ _ hnd.1 hnd.2
      simpa using this
    clear hgk
    rcases hit.next 67 with ⟨hall, hN0⟩ | ⟨⟨⟨pn, dn⟩, v⟩, hp, hpd, w7, hN0, hE0, hit7, hk7⟩
    · have hN := fun (ty : TypeId) => show (Instr.next (.pointer (some ⟨gi, 0, none⟩)) false ty).run Tryz.prog wr = _ from hN0
      have Hfin := Lib.hid (show (ds.Nodup ∧ ∀ x, x ∈ ds ↔ x ∈ L.map (·.1)) ∧ J ds wr from ⟨⟨hnd.1, fun x => ⟨hnd.2 x, fun hx => by
        obtain ⟨q, hq, rfl⟩ := List.mem_map.1 hx
        exact hall q hq⟩⟩, hJs⟩)
      clear hN0 hall hit hJs hnd
      gi_wp2
      go_end0
      exact ⟨⟨_, rfl⟩, .inl ⟨ds, Hfin.out.1, Hfin.out.2⟩⟩
    · have hN := fun (ty : TypeId) => show (Instr.next (.pointer (some ⟨gi, 0, none⟩)) false ty).run Tryz.prog wr = .ok (.tuple #[.bool true, .agg #[.string pn, .int .i64 dn], V v]) w7 from hN0
      have hE : (Instr.entry (.pointer (some ⟨gi, 0, none⟩))).run Tryz.prog w7 = .ok (.tuple #[.agg #[.string pn, .int .i64 dn], V v]) w7 := hE0
      have hnd7 := hit7.nd
      have hel2 : (ds ++ [(pn, dn)]).length ≤ L.length := by
        have := nodup_sub_len _ _ hnd7.1 hnd7.2
        simpa using this
      simp at hel2
      have hJ7 : J ds w7 := HJ.out ds wr w7 (some gi) hJs (grown_of_keeps hk7) (fun r e => by cases e; exact ⟨hgW, hit.walk⟩)
      have hJ8 : J ds (w7.alloc (.cells #[.string pn, .int .i64 dn] 67)) := HJ.out ds w7 _ none hJ7 (grown_alloc _ _) (fun r e => by cases e)
      have hit8 : Iter (idK dayT) V (w7.alloc (.cells #[.string pn, .int .i64 dn] 67)) gi b L (ds ++ [(pn, dn)]) := hit7.keep (ok := fun _ => True) ((Keeps.refl _ _).alloc _) trivial trivial
      obtain ⟨fn, tmps, assign, body, hy, hR2⟩ := HY.out ds (pn, dn) _ hJ8 (by omega)
      have hy' : (Instr.yield l #[.agg #[.string pn, .int .i64 dn]]).run Tryz.prog (w7.alloc (.cells #[.string pn, .int .i64 dn] 67)) = _ := hy
      have Hit8 := Lib.hid hit8
      clear hN0 hE0 hit hit7 hit8 hJs hJ7 hJ8 hk7 hp hpd hnd hnd7
      gi_wp2
      refine hR2.mono ?_
      rintro e W3 (⟨rfl, hJ3, hk3⟩ | ⟨rfl, hJx3⟩)
      · have HE := Lib.hid (show Iter (idK dayT) V W3 gi b L (ds ++ [(pn, dn)]) ∧ J (ds ++ [(pn, dn)]) W3 from ⟨Hit8.out.walks hk3, hJ3⟩)
        clear hJ3 hk3
        gi_wp2
        gi_roundg (L.length - (ds ++ [(pn, dn)]).length)
        case measure => rw [Hgk.out]; simp; omega
        case rel => exact ⟨ds ++ [(pn, dn)], rfl, HE.out.1, HE.out.2⟩
      · have Hx := Lib.hid hJx3
        clear hJx3
        gi_wp2
        refine bodyPost_ret (results_none rfl _ _ _) rfl ?_
        exact ⟨⟨_, rfl⟩, .inr ⟨_, Hx.out⟩⟩
set_option maxHeartbeats 1000000 in
theorem itd_keys (F : Fence) (n : Nat) (h5 : F.fn 26) (hro : F.round = none) (m : Option Nat) (w : World) :
    CallsIn F n Tryz.prog 26 #[.map m] w fun e w' => e = .returned (.func (.func 52) #[] #[.pointer (some ⟨w.heap.size, 0, none⟩)]) ∧ w' = w.alloc (.cells #[.map m] 63) := by
  refine callsIn_of_wp Tryz.func26 rfl h5 ?_ hro
  simp only [Tryz.ntmps26, List.size_toArray, List.length_cons, List.length_nil, Nat.reduceAdd, Nat.reduceSub, Array.replicate_succ, Array.replicate_zero, List.push_toArray, List.append_toArray, List.nil_append, List.cons_append]
  gi_wp2
  go_ret
  exact ⟨rfl, rfl⟩
theorem itd_stops {β : Type} (V : β → Value) (F : Fence) (n : Nat) (h7 : F.fn 52) (hro : F.round = none) (hn : 1 ≤ n) (Bm b : Nat) (L : List (Idt × β)) (w : World) (hBm : Bm < w.heap.size) (hm : w.cell? ⟨Bm, 0, none⟩ = some (.map (some b))) (hmp : Mp (idK dayT) V w b L) :
    SeqStopsK F n Tryz.prog 52 #[.pointer (some ⟨Bm, 0, none⟩)] (fun x : Idt => #[.agg #[.string x.1, .int .i64 x.2]]) KeepsWalks (fun ys => ys.Nodup ∧ ∀ x, x ∈ ys ↔ x ∈ L.map (·.1)) (fun _ => True) L.length w := fun l J Jx W hW hJ _ hY h0 => by
  have hxW : Ext w W := Ext.of_below hW
  refine (itd_keys1 V F n h7 hro hn l Bm b L J Jx W hJ hY ((hxW.cell (p := ⟨Bm, 0, none⟩) hBm trivial).trans hm) (hmp.ext hxW) h0).mono ?_
  rintro e W' ⟨he, ⟨ys, hS, hj⟩ | ⟨pre, hj⟩⟩
  · exact ⟨he, .inl ⟨ys, hS, hj⟩⟩
  · exact ⟨he, .inr ⟨pre, trivial, hj⟩⟩
theorem itd_info : (Tryz.prog.info? 67).map (fun i => (i.zero, i.size, i.bytes)) = some (some (.agg #[.string ⟨#[]⟩, .int .i64 0]), 2, 24) := by kernel_rfl
def dayL (ys : List Idt) : List Value := ys.flatMap fun x => [Value.string x.1, Value.int .i64 x.2]
theorem dayL_snoc (ys : List Idt) (x : Idt) : dayL (ys ++ [x]) = dayL ys ++ [.string x.1, .int .i64 x.2] := by simp [dayL]
theorem cell_two_new (w : World) (x y : Value) (t : TypeId) : ∀ j u, [x, y][j]? = some u → (w.alloc (.cells #[x, y] t)).cell? ((⟨w.heap.size, 0, none⟩ : Addr).add j) = some u := by
  intro j u hj
  rw [ad_add, Nat.zero_add]
  exact blk_cell (blk_new w (.cells #[x, y] t)) j (by simpa using hj)
/-- The round's frame: the day lies in a box of its own. -/
def dayAx (base : Nat) (bm sb : Value) (x : Idt) (a : Act) (W : World) : Prop :=
  ∃ g, base ≤ g ∧ a = { tmps := #[.slice none 0 0, bm, sb, undef, .slice none 0 0, .pointer (some ⟨g, 0, none⟩), bm, .agg #[.string x.1, .int .i64 x.2], undef, undef, undef, undef, undef], defers := [] } ∧ W.heap[g]? = some (.cells #[.string x.1, .int .i64 x.2] 67)
theorem dayAx_own (base B : Nat) (bm sb : Value) (x : Idt) (a : Act) : OwnFrom B (fun (_ : Unit) W => dayAx base bm sb x a W) := fun _ W W' row ⟨g, hb, ha, hg⟩ hgr hr => by
  refine ⟨g, hb, ha, ?_⟩
  rw [hgr.block g (Array.getElem?_eq_some_iff.1 hg).1 (fun e => ?_)]
  · exact hg
  · obtain ⟨_, o, ho, hc⟩ := hr g e.symm
    rw [hg] at ho
    obtain rfl := Option.some.inj ho
    cases hc
set_option maxRecDepth 100000 in
set_option maxHeartbeats 2000000 in
theorem itd_AppendSeq {β : Type} (V : β → Value) (F : Fence) (n : Nat) (h3 : F.fn 85) (h5 : F.fn 52) (hro : F.round = none) (hn : 3 ≤ n) (Bm b : Nat) (L : List (Idt × β)) (hlen : L.length ≤ 1048576) (w : World) (hBm : Bm < w.heap.size)
    (hm : w.cell? ⟨Bm, 0, none⟩ = some (.map (some b))) (hmp : Mp (idK dayT) V w b L) :
    CallsIn F n Tryz.prog 85 #[.slice none 0 0, .func (.func 52) #[] #[.pointer (some ⟨Bm, 0, none⟩)]] w fun e W' => ∃ (v : Value) (ys : List Idt), e = .returned v ∧ (ys.Nodup ∧ ∀ x, x ∈ ys ↔ x ∈ L.map (·.1)) ∧ W'.ownsRow w.heap.size 67 2 v ys.length (dayL ys) ∧ Below w.heap.size w W' := by
  have h1 : 1 ≤ n := by omega
  have hmx : (1048576 : Nat) ≤ maxLen := by decide
  obtain ⟨i0, hi, hz0, hz1, hz2⟩ := info_parts itd_info
  refine callsIn_of_wp_marks Tryz.func85 rfl h3 ?_ hro
  simp only [Tryz.ntmps85, List.size_toArray, List.length_cons, List.length_nil, Nat.reduceAdd, Nat.reduceSub, Array.replicate_succ, Array.replicate_zero, List.push_toArray, List.append_toArray, List.nil_append, List.cons_append]
  gi_wp2
  have bO := Boxed.new w 68 (.slice none 0 0)
  have hB0 : Below w.heap.size w (w.alloc (.cells #[.slice none 0 0] 68)) := (Below.refl _ w).alloc (Nat.le_refl _) _
  have hx0 : Ext w (w.alloc (.cells #[.slice none 0 0] 68)) := (Keeps.refl _ _).alloc _
  have hI : OwnFrom (w.alloc (.cells #[.slice none 0 0] 68)).heap.size (fun (pre : List Idt) W => (∃ v, Boxed W w.heap.size 68 v ∧ W.ownsRow w.heap.size 67 2 v pre.length (dayL pre) ∧ (v = .slice none 0 0 ↔ pre = [])) ∧ Below w.heap.size w W) :=
    OwnFrom.and (Own.from (holdsRow_own w.heap.size w.heap.size 68 67 2 (fun (pre : List Idt) => pre.length) (fun pre => dayL pre) (fun pre v => v = .slice none 0 0 ↔ pre = [])) _) (ownFrom_below (Nat.le_refl _) (by simp))
  refine wpIn_rangeFunc_ownH hro h1 (gf := 52) (lb := #[.pointer (some ⟨Bm, 0, none⟩)]) rfl h5 (enters_of Tryz.func52 (by kernel_rfl) rfl)
    (itd_stops V F (n - 1) h5 hro (by omega) Bm b L _ (by simp; omega) ((hx0.cell (p := ⟨Bm, 0, none⟩) hBm trivial).trans hm) (hmp.ext hx0)) walksK_t walksK_b (Below.refl _ _) (fun _ => rfl)
    (fun pre W => (∃ v, Boxed W w.heap.size 68 v ∧ W.ownsRow w.heap.size 67 2 v pre.length (dayL pre) ∧ (v = .slice none 0 0 ↔ pre = [])) ∧ Below w.heap.size w W)
    (fun _ _ _ => False)
    hI
    (fun _ _ _ _ _ hs _ _ => hs)
    ⟨⟨_, bO, World.ownsRow_nil _ _ _ _, by simp⟩, hB0⟩
    (dayAx w.heap.size (.func (.func 52) #[] #[.pointer (some ⟨Bm, 0, none⟩)]) (.pointer (some ⟨w.heap.size, 0, none⟩))) (fun x a' => dayAx_own _ _ _ _ x a') ?assign ?body ?done ?stop
  case assign =>
    intro l pre x W K hIp hK
    have hBs := hIp.2.size
    gi_wp2
    exact hK _ _ ((KeepsOthers.alloc _ _).from _) (KeepsWalks.alloc _ _) (hI.alloc _ hIp) ⟨W.heap.size, hBs, rfl, blk_new _ _⟩
  case body =>
    rintro l pre x a' W hlw hlr ⟨⟨v, hv, hrow, hnil⟩, hB⟩ ⟨g, hgb, rfl, hg⟩ hlt
    have hc := hv.cell
    have q0 := blk_cell hg 0 rfl
    have q1 := blk_cell hg 1 rfl
    gi_wp2_with (gi_at_builtin; refine wpListIn_append_own _ rfl _ _ 68 rfl w.heap.size 67 i0 (.agg #[.string ⟨#[]⟩, .int .i64 0]) 2 24 Tryz.underlying68 hi hz0 hz1 hz2 rfl (by decide) _ _ _ rfl (hrow.alloc _) ⟨W.heap.size, 0, none⟩ 1 1 [.string x.1, .int .i64 x.2] rfl rfl (cell_two_new _ _ _ _) (by simp [Value.oneCell']) (by omega) (by omega) (by have := hB.size; simp; omega) ?_; intro v' w1 hown' hgrow _; obtain ⟨g', cap', rfl⟩ := ownsRow_succ hown'; obtain ⟨hv1, hv2, hr2, hk2, hb2⟩ := hv.appended (by decide) hrow hB.size (Nat.le_refl _) hown' hgrow; have hc1 := hv1.cell; have hf1 := hv1.frozen)
    exact ⟨hk2.from _, ⟨hk2.size, fun k o h ho => hk2.same k o h (by cases o <;> first | rfl | (simp [Obj.isWalk] at ho))⟩, ⟨_, hv2, by rw [dayL_snoc]; simpa using hr2, by simp⟩, hB.trans hb2⟩
  case done =>
    rintro D ys W hD hS ⟨⟨v, hv, hrow, hnil⟩, hB⟩ hK
    have hc := hv.cell
    gi_wp2
    refine ⟨by simp, .inl ⟨_, _, rfl, run_takeDeferred hK, ?_⟩⟩
    exact ⟨_, results_tmp rfl _ _ _, v, ys, rfl, hS, ownsRow_putObj hrow _ hK rfl, hB.trans (belowK_b (w := w) (Nat.le_refl _) W D _ _ (by simp at hD; omega) hK rfl rfl)⟩
  case stop =>
    rintro D c pre W _ _ h _
    exact h.elim
set_option maxHeartbeats 1000000 in
theorem itd_Collect {β : Type} (V : β → Value) (F : Fence) (n : Nat) (h8 : F.fn 50) (h3 : F.fn 85) (h5 : F.fn 52) (hro : F.round = none) (hn : 4 ≤ n) (Bm b : Nat) (L : List (Idt × β)) (hlen : L.length ≤ 1048576) (w : World) (hBm : Bm < w.heap.size)
    (hm : w.cell? ⟨Bm, 0, none⟩ = some (.map (some b))) (hmp : Mp (idK dayT) V w b L) :
    CallsIn F n Tryz.prog 50 #[.func (.func 52) #[] #[.pointer (some ⟨Bm, 0, none⟩)]] w fun e W' => ∃ (v : Value) (ys : List Idt), e = .returned v ∧ (ys.Nodup ∧ ∀ x, x ∈ ys ↔ x ∈ L.map (·.1)) ∧ W'.ownsRow w.heap.size 67 2 v ys.length (dayL ys) ∧ Below w.heap.size w W' := by
  have h1 : 1 ≤ n := by omega
  refine callsIn_of_wp Tryz.func50 rfl h8 ?_ hro
  simp only [Tryz.ntmps50, List.size_toArray, List.length_cons, List.length_nil, Nat.reduceAdd, Nat.reduceSub, Array.replicate_succ, Array.replicate_zero, List.push_toArray, List.append_toArray, List.nil_append, List.cons_append]
  gi_wp2_with (gi_at_call 85; refine (itd_AppendSeq V F (n - 1) h3 h5 hro (by omega) Bm b L hlen w hBm hm hmp).mono ?_; rintro e w' ⟨v, ys, rfl, hS, hrow, hb⟩)
  go_ret
  exact ⟨v, ys, rfl, hS, hrow, hb⟩
end Go.Proofs.YtpkkkhgmkndpdaaGreatDoor
namespace Go.Proofs.YtpkkkhgmkndpdaaGreatDoor
open Go Go.RowKit Go.Shelf Go.Proofs Go.Lib Go.Sort
attribute [local go_sem] Oper.semAt_some
def encD (x : Idt) : List Value := [.string x.1, .int .i64 x.2]
def dayR : Rep Idt where
  size := 2
  rep _ _ d xs := xs = encD d
  len h := by subst h; rfl
  one h u hu := by
    subst h
    simp [encD] at hu
    rcases hu with rfl | rfl <;> rfl
  keep _ h := h
  mono _ h := h
theorem dayL_at : ∀ (ys : List Idt) (q : Nat), (dayL ys)[q]? = (ys[q / 2]?).bind fun e => (encD e)[q % 2]?
  | [], q => by simp [dayL]
  | a :: l, q => by
    have h9 : dayL (a :: l) = encD a ++ dayL l := by simp [dayL, encD]
    rw [h9]
    have h8 : (encD a).length = 2 := rfl
    by_cases hq : q < 2
    · rw [List.getElem?_append_left (by rw [h8]; exact hq), show q / 2 = 0 by omega, show q % 2 = q by omega]; rfl
    · rw [List.getElem?_append_right (by rw [h8]; omega), h8, dayL_at l (q - 2), show q / 2 = (q - 2) / 2 + 1 by omega, show q % 2 = (q - 2) % 2 by omega]; rfl
theorem dayL_len (ys : List Idt) : (dayL ys).length = ys.length * 2 := by
  induction ys with
  | nil => rfl
  | cons a l ih =>
    have h9 : dayL (a :: l) = encD a ++ dayL l := by simp [dayL, encD]
    rw [h9, List.length_append, ih]
    simp [encD]; omega
theorem days_hold {w : World} {g cap : Nat} {cur : Array Value} {ys : List Idt} (hb : w.heap[g]? = some (.cells cur 67 (0, 0))) (ht : cur.toList.take (ys.length * 2) = dayL ys) : HoldsK encD 2 w g 0 ys.toArray := by
  have _ := cap
  intro j hj
  rw [size_flatK] at hj
  have hj' : j < ys.length * 2 := by simpa using hj
  have hq : j / 2 < ys.length := by omega
  have h1 : cur.toList[j]? = (ys[j / 2]?).bind fun e => (encD e)[j % 2]? := by
    rw [← dayL_at ys j, ← ht, List.getElem?_take_of_lt hj']
  rw [List.getElem?_eq_getElem hq] at h1
  have h2 : (encD ys[j / 2])[j % 2]? = some ((encD ys[j / 2])[j % 2]!) := by
    have h8 : (encD ys[j / 2]).length = 2 := rfl
    rw [List.getElem?_eq_getElem (by rw [h8]; omega), getElem!_pos _ _ (by rw [h8]; omega)]
  have h3 : cur[j]? = some ((encD ys[j / 2])[j % 2]!) := by
    rw [← Array.getElem?_toList, h1]
    exact h2
  refine ⟨?_, blk_free hb _⟩
  rw [get_flatK _ _ _ _ hj, Nat.zero_add]
  have h5 : ys.toArray[j / 2]! = ys[j / 2] := by rw [getElem!_pos _ _ (by simpa using hq)]; simp
  rw [h5]
  exact blk_cell hb j h3
theorem sl_days {w : World} {g : Nat} {d : Array Idt} {ok : Nat → Prop} (h : HoldsK encD 2 w g 0 d) (hg : g < w.heap.size) (hok : ok g) : Sl dayR ok w (some ⟨g, 0, none⟩) d.size d.toList := by
  refine ⟨by simp, fun _ => ⟨g, 0, rfl, hg, hok, fun k a hk => ⟨encD a, rfl, fun j u hj => ?_⟩⟩⟩
  obtain ⟨hk1, hk2⟩ := List.getElem?_eq_some_iff.1 hk
  have hk3 : k < d.size := by simpa using hk1
  have hl : (encD a).length = 2 := rfl
  obtain ⟨hj1, hj2⟩ := List.getElem?_eq_some_iff.1 hj
  have h9 := (h.cell (i := k) (c := j) hk3 (by omega)).1
  have ha : d[k]! = a := by rw [getElem!_pos d k hk3]; simpa using hk2
  rw [ha, getElem!_pos _ j hj1, hj2] at h9
  exact h9
/-- Days that rise: each once, in order. -/
theorem days_ris {ks : List Idt} (hn : ks.Nodup) (hs : ks.Pairwise (fun a b => dayLt b a = false)) : Ris dayLt ks :=
  (hs.and hn).imp fun {a b} ⟨h1, h2⟩ => by
    cases h : dayLt a b with
    | true => rfl
    | false =>
      exfalso
      apply h2
      have q1 : ¬ (a.2 < b.2 ∨ (a.2 = b.2 ∧ ltB a.1 b.1 = true)) := fun e => by rw [dayLt_iff.2 e] at h; cases h
      have q2 : ¬ (b.2 < a.2 ∨ (b.2 = a.2 ∧ ltB b.1 a.1 = true)) := fun e => by rw [dayLt_iff.2 e] at h1; cases h1
      have e2 : a.2 = b.2 := by omega
      have e1 : a.1 = b.1 := by
        rcases cmpS_cases a.1 b.1 with ⟨_, k2, _, _⟩ | ⟨_, _, _, k4⟩ | ⟨_, _, k3, _⟩
        · exact absurd (.inr ⟨e2, k2⟩) q1
        · exact k4
        · exact absurd (.inr ⟨e2.symm, k3⟩) q2
      exact Prod.ext e1 e2
theorem sorted_days {d : Array Idt} (h : SortedIn (ltOf cmpD) 0 d.size d) : d.toList.Pairwise (fun a b => dayLt b a = false) := by
  rw [List.pairwise_iff_getElem]
  intro i j hi hj hij
  have h9 := h i j (Nat.zero_le _) hij (by simpa using hj)
  rw [cmpD_lt, getElem!_pos _ _ (by simpa using hj), getElem!_pos _ _ (by simpa using hi)] at h9
  simpa using h9
theorem perm_days {d d' : Array Idt} (h : PermIn 0 d.size d d') : d'.toList.Perm d.toList := by
  obtain ⟨h1, _, h3⟩ := h
  have e1 : (d'.extract 0 d.size) = d' := by rw [← h1]; simp
  have e2 : (d.extract 0 d.size) = d := by simp
  rwa [e1, e2] at h3
theorem keeps_sorted (W : World) (g n : Nat) (d : Array Idt) (os : Array Obj) : Keeps (fun i => i ≠ g) W (sortWorldK encD 2 W g 0 n d os) := by
  refine ⟨rfl, rfl, rfl, size_sortWorldK_c encD 2 W g 0 n d os, fun k hk hne => ?_⟩
  unfold sortWorldK putRowK
  rw [heap_grow_old _ _ (by simpa using hk)]
  have : g ≠ k := fun e => hne e.symm
  simp [putRow, mapBlock, Sort.ahead, Array.getElem?_modify, this]
set_option maxRecDepth 100000 in
set_option maxHeartbeats 2000000 in
theorem itd_SortedFunc {β : Type} (V : β → Value) (Bm b : Nat) (L : List (Idt × β)) (hlen : L.length ≤ 1048576) (w : World) (hBm : Bm < w.heap.size) (hm : w.cell? ⟨Bm, 0, none⟩ = some (.map (some b))) (hmp : Mp (idK dayT) V w b L) :
    Calls Tryz.prog 25 #[.func (.func 52) #[] #[.pointer (some ⟨Bm, 0, none⟩)], .func (.func 27) #[] #[]] w fun e w' => ∃ (A : Option Addr) (n c : Nat) (ks : List Idt), e = .returned (.slice A n c) ∧ Sl dayR (fun g => w.heap.size ≤ g) w' A n ks ∧ Ris dayLt ks ∧ (∀ x, x ∈ ks ↔ x ∈ L.map (·.1)) ∧ Ext w w' := by
  refine (callsIn_wide (n := 6)).1 ?_
  have h50 : Fence.wide.fn 50 := trivial
  have h51 : Fence.wide.fn 51 := trivial
  refine callsIn_of_wp Tryz.func25 rfl trivial ?_ rfl
  simp only [Tryz.ntmps25, List.size_toArray, List.length_cons, List.length_nil, Nat.reduceAdd, Nat.reduceSub, Array.replicate_succ, Array.replicate_zero, List.push_toArray, List.append_toArray, List.nil_append, List.cons_append]
  gi_wp2_with (gi_at_call 50; refine (itd_Collect V Fence.wide 5 trivial trivial trivial rfl (by omega) Bm b L hlen w hBm hm hmp).mono ?_; rintro e W ⟨v, ys, rfl, ⟨hnd, hmem⟩, hrow, hb⟩)
  rcases hrow.2 with ⟨rfl, hz⟩ | ⟨gb, cap, cur, rfl, hbase, hgb, r1, r2, r3, r4⟩
  · have hys : ys = [] := List.eq_nil_of_length_eq_zero hz
    subst hys
    have hcon : CallsIn Fence.wide 5 Tryz.prog 51 #[.slice none 0 0, .func (.func 27) #[] #[]] W _ := callsIn_wide.2 (AnyF.slices_SortFunc_none { Tryz.sortDay with } none 0 (.func (.func 27) #[] #[]) W)
    have Hmem := Lib.hid hmem
    have Hx := Lib.hid (Ext.of_below hb)
    clear hrow hmem hnd hb
    gi_wp2_with (gi_at_call 51; refine hcon.mono ?_; rintro e w' ⟨rfl, rfl⟩)
    go_ret
    exact ⟨none, 0, 0, [], rfl, Sl.nil_, List.Pairwise.nil, Hmem.out, Hx.out⟩
  · have hH : HoldsK encD 2 W gb 0 ys.toArray := days_hold (cap := cap) hgb r4
    have hgl : gb < W.heap.size := (Array.getElem?_eq_some_iff.1 hgb).1
    have hys : ys.length ≤ 1048576 := by
      have h9 := nodup_sub_len _ _ hnd (fun d hd => (hmem d).1 hd)
      simp at h9
      omega
    have hcmp : CmpLays Tryz.prog 27 #[] encD 2 cmpD gb 0 ys.toArray.size W := fun _ _ _ _ x y => day_closure x y _
    have hcon0 := AnyQ.slices_SortFunc Tryz.sortDay 2 Tryz.isAgg67 Tryz.sizeOf67 encD (fun _ => rfl) (fun x v hv => by simp [encD] at hv; rcases hv with rfl | rfl <;> rfl) cmpD cmpD_swo 27 #[] gb 0 cap ys.toArray W (enters_of Tryz.func27 (by kernel_rfl) rfl) hcmp hH hgl (by simp; omega)
    have hcon : CallsIn Fence.wide 5 Tryz.prog 51 #[.slice (some ⟨gb, 0, none⟩) ys.length cap, .func (.func 27) #[] #[]] W _ := callsIn_wide.2 hcon0
    have Hmem := Lib.hid hmem
    have Hnd := Lib.hid hnd
    have HH := Lib.hid hH
    have Hx := Lib.hid (Ext.of_below hb)
    have Hbase := Lib.hid hbase
    clear hrow hmem hnd hb hcmp hcon0 hH hgb r1 r2 r3 r4
    gi_wp2_with (gi_at_call 51; refine hcon.mono ?_; rintro e w' ⟨rfl, d', nn, os, hp, hs, rfl⟩)
    go_ret
    have hsz : d'.size = ys.length := by have := hp.1; simpa using this
    have hpl := perm_days hp
    have hnd' : d'.toList.Nodup := hpl.nodup_iff.2 (by simpa using Hnd.out)
    have hH' := holdsK_sortWorldK_c encD 2 W gb 0 ys.toArray d' nn os HH.out hgl hp.1
    refine ⟨_, _, _, d'.toList, rfl, ?_, days_ris hnd' (sorted_days (by rw [hsz]; simpa using hs)), fun x => ?_, Keeps.then_ Hx.out (keeps_sorted W gb nn d' os) (fun i hi _ e => by have := Hbase.out; omega)⟩
    · have h9 := sl_days (ok := fun g => w.heap.size ≤ g) hH' (Nat.lt_of_lt_of_le hgl (size_sortWorldK_c encD 2 W gb 0 nn d' os)) Hbase.out
      rw [hsz] at h9
      exact h9
    · rw [← Hmem.out x]
      simpa using hpl.mem_iff (a := x)
end Go.Proofs.YtpkkkhgmkndpdaaGreatDoor
