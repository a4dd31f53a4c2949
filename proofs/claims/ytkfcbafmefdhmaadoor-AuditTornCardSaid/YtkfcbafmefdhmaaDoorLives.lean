/-
  What is proved here: the law's own example, lives, is true. Condition: the table of powers is laid.
-/
import Derived.Test.YtkfcbafmefdhmaaDoorChain5
import Derived.Test.YtkfcbafmefdhmaaDoorChain3
import Derived.Test.YtkfcbafmefdhmaaDoorChain4
import Derived.Test.YtkfcbafmefdhmaaDoorHash
namespace Go.Proofs.YtkfcbafmefdhmaaDoor
open Go Go.RowKit Go.Proofs
attribute [local go_sem ↓] Go.wp_at_zero Go.wp_at_succ

theorem blk_drew {w : World} {g : Nat} {o : Obj} (h : w.heap[g]? = some o) : w.drew.heap[g]? = some o := h
theorem lives_enc : (⟨(encL 5 []).toArray⟩ : ByteArray) = ⟨#[97, 117, 100, 105, 116, 32, 53, 10]⟩ := by
  unfold encL headL linesL
  rw [show (5 : Int).toNat = 5 from rfl, Lib.decDigits, dif_pos (by decide)]
  rfl
theorem lives_itoa (n : Nat) (h : n < 10) : itoaB (n : Int) = ⟨#[UInt8.ofNat (48 + n)]⟩ := by
  unfold itoaB
  rw [Lib.itoa_nonneg, Lib.decDigits, dif_pos h]
theorem lives_may : mayE (⟨1, 2, ⟨#[112]⟩, [⟨#[97]⟩], 0⟩ : Ent) = true := by decide +kernel
theorem lives_sizes : ∀ s ∈ [(⟨#[49]⟩ : ByteArray), ⟨#[50]⟩, ⟨#[112]⟩, ⟨#[97]⟩], s.size < maxLen := by
  intro s hs
  have : s.size = 1 := by
    simp only [List.mem_cons, List.not_mem_nil, or_false] at hs
    rcases hs with rfl | rfl | rfl | rfl <;> rfl
  unfold maxLen; omega
theorem lives_sum : sumE 5 (⟨1, 2, ⟨#[112]⟩, [⟨#[97]⟩], 0⟩ : Ent) = hash 5 [⟨#[49]⟩, ⟨#[50]⟩, ⟨#[112]⟩, ⟨#[97]⟩] := by
  unfold sumE
  rw [show itoaB (Ent.off (⟨1, 2, ⟨#[112]⟩, [⟨#[97]⟩], 0⟩ : Ent)) = ⟨#[49]⟩ from lives_itoa 1 (by decide), show itoaB (Ent.now (⟨1, 2, ⟨#[112]⟩, [⟨#[97]⟩], 0⟩ : Ent)) = ⟨#[50]⟩ from lives_itoa 2 (by decide)]

set_option maxRecDepth 100000 in
set_option maxHeartbeats 4000000 in
theorem law_lives (w : World) (hpow : Pow w) : Calls Tryd.prog 8 #[] w fun e w' => e = .returned (.bool true) ∧ Ext w w' := by
  have Hpow := Lib.hid hpow
  clear hpow
  go_enter Tryd.func8, Tryd.ntmps8
  go_wp2_with (first
    | (go_at_call 10; refine (chain_New 5 _).mono ?_; rintro _ w1 ⟨rfl, hch1, hx1⟩; have Hch1 := Lib.hid hch1; have Hx1 := Lib.hid hx1; clear hch1 hx1)
    | (go_at_call 17; refine (chain_Encode _ 5 (by decide) (by decide) [] _ _ Hch1.out (by decide) (by simp) (Hpow.out.ext Hx1.out)).mono ?_; rintro _ w2 ⟨A2, n2, c2, rfl, hb2, hx2⟩; have hcv2 := string_of_bts (P := Tryd.prog) w2 39 9 5 A2 c2 Tryd.underlying39 Tryd.underlying5 Tryd.underlying9 hb2; rw [lives_enc] at hcv2; have Hx2 := Lib.hid hx2; clear hx2 hb2))
  refine (chain_Add_yes w.heap.size 5 [] (.slice none 0 0) 1 2 ⟨#[112]⟩ [⟨#[97]⟩] (some ⟨w2.heap.size, 0, none⟩) 1 (fun _ => True) _ (Hch1.out.ext (Hx2.out.alloc _)) (by decide) (Sl.new_strs (blk_new _ _) trivial rfl rfl) lives_may (Hpow.out.ext (Hx1.out.trans (Hx2.out.alloc _)))).mono ?_
  rintro _ w3 ⟨A3, c3, v3, rfl, hs3, hc3, hch3, hk3, hv3⟩
  have Hx3 := Lib.hid (show Ext w w3 from Keeps.then_ (Hx1.out.trans (Hx2.out.alloc _)) hk3 (fun i hi _ => ⟨by omega, by simp [Value.ownBlock]⟩))
  obtain ⟨H, hH⟩ : ∃ H, H = hash 5 [⟨#[49]⟩, ⟨#[50]⟩, ⟨#[112]⟩, ⟨#[97]⟩] := ⟨_, rfl⟩
  rw [show aheadOf 5 [] = 5 from rfl, lives_sum, ← hH] at hch3 ⊢
  have HH := Lib.hid hH
  clear hH
  have Hch3 := Lib.hid hch3
  clear hs3 hch3 hk3 hv3 hcv2
  go_wp2_with fail
  have gx0 := blk_new w3 (.cells (#[.int .i64 1, .int .i64 2, .string ⟨#[112]⟩, .slice A3 1 c3, .int .u64 H] : Array Value) 33)
  have Hxx := Lib.hid (show Ext w (w3.alloc (.cells (#[.int .i64 1, .int .i64 2, .string ⟨#[112]⟩, .slice A3 1 c3, .int .u64 H] : Array Value) 33)) from Hx3.out.alloc _)
  have Hch4 := Lib.hid (Hch3.out.ext ((Keeps.refl _ w3).alloc (.cells (#[.int .i64 1, .int .i64 2, .string ⟨#[112]⟩, .slice A3 1 c3, .int .u64 H] : Array Value) 33)))
  generalize (w3.alloc (.cells (#[.int .i64 1, .int .i64 2, .string ⟨#[112]⟩, .slice A3 1 c3, .int .u64 H] : Array Value) 33)) = X at *
  have hbox : ∀ (Y : World) (j : Nat), Y.heap[w3.heap.size]? = some (.cells (#[.int .i64 1, .int .i64 2, .string ⟨#[112]⟩, .slice A3 1 c3, .int .u64 H] : Array Value) 33) → Y.cell? ⟨w3.heap.size, j, none⟩ = ((#[.int .i64 1, .int .i64 2, .string ⟨#[112]⟩, .slice A3 1 c3, .int .u64 H] : Array Value) : Array Value)[j]? := fun Y j h => by simp [World.cell?, h]
  go_region_held3 (fun w' => w'.heap[w3.heap.size]? = some (.cells (#[.int .i64 1, .int .i64 2, .string ⟨#[112]⟩, .slice A3 1 c3, .int .u64 H] : Array Value) 33)) (repeat (first | assumption | with_reducible refine blk_drew ?_ | with_reducible refine blk_old ?_ _ | with_reducible refine Ext.blk (by assumption) ?_)) (first
    | (go_at_call 24; refine (ref_Hash 5 _ 4 _ [⟨#[49]⟩, ⟨#[50]⟩, ⟨#[112]⟩, ⟨#[97]⟩] (fun _ => True) _ (Sl.new_strs (blk_new _ _) trivial rfl rfl) (by decide) lives_sizes).mono ?_; rintro _ w4 ⟨rfl, rfl⟩; try rw [← HH.out])
    | (go_at_call 24; refine (ref_Hash 5 _ 4 _ [⟨#[49]⟩, ⟨#[50]⟩, ⟨#[112]⟩, ⟨#[97]⟩] (fun _ => True) _ (Sl.new_strs (blk_drew (blk_new _ _)) trivial rfl rfl) (by decide) lives_sizes).mono ?_; rintro _ w4 ⟨rfl, rfl⟩; try rw [← HH.out])
    | (go_at_call 16; refine (chain_Entries w.heap.size 5 _ v3 _ (Hch4.out.ext (by repeat (first | assumption | with_reducible exact Keeps.refl _ _ | with_reducible refine Keeps.drew ?_ | with_reducible refine Keeps.alloc ?_ _))) (by simp) (by simp)).mono ?_; rintro _ w5 ⟨A5, c5, rfl, hown5, hx5⟩; have hy5 : Ext X w5 := Keeps.trans (by repeat (first | assumption | with_reducible exact Keeps.refl _ _ | with_reducible refine Keeps.drew ?_ | with_reducible refine Keeps.alloc ?_ _)) hx5))
  clear hbox hown5 hx5
  go_wp2_with fail
  go_ret
  exact ⟨rfl, Hxx.out.trans hy5⟩
end Go.Proofs.YtkfcbafmefdhmaaDoor
