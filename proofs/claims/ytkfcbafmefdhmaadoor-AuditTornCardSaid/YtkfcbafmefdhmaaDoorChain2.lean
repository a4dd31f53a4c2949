/-
  What is proved here: what Add does with an entry that may not be. Conditions: where they are named.
-/
import Derived.Test.YtkfcbafmefdhmaaDoorChain1
namespace Go.Proofs.YtkfcbafmefdhmaaDoor
open Go Go.RowKit Go.Proofs
attribute [local go_sem ↓] Go.wp_at_zero Go.wp_at_succ

set_option maxRecDepth 100000 in
set_option maxHeartbeats 2000000 in
theorem chain_Add_no (b : Nat) (off now : Int) (person : ByteArray) (items : List ByteArray) (A : Option Addr) (c : Nat) (ok : Nat → Prop) (w : World) (hs : Sl strR ok w A items.length items) (hn : items.length ≤ 1000) (hp : person.size ≤ maxLen) (hi : ∀ s ∈ items, s.size ≤ maxLen) (hmay : mayE (⟨off, now, person, items, 0⟩ : Ent) = false) :
    Calls Tryd.prog 13 #[.pointer (some ⟨b, 0, none⟩), .int .i64 off, .int .i64 now, .string person, .slice A items.length c] w fun r w' => r = .returned (.agg #[.int .i64 0, .int .i64 0, .string ⟨#[]⟩, .slice none 0 0, .int .u64 0]) ∧ Ext w w' := by
  have Hs := Lib.hid hs
  have Hm := Lib.hid hmay
  clear hs hmay
  go_enter Tryd.func13, Tryd.ntmps13
  go_wp2_with fail
  refine (aud_own (⟨off, now, person, items, 0⟩ : Ent) A c ok _ (Hs.out.alloc _) (by show items.length ≤ _; omega)).mono ?_
  rintro _ w1 ⟨A1, c1, rfl, hc1, hs1, hx1⟩
  have g0 := hx1.blk (blk_new w _)
  have r0 := blk_cell g0 0 rfl
  have r1 := blk_cell g0 1 rfl
  have r2 := blk_cell g0 2 rfl
  have r3 := blk_cell g0 3 rfl
  have r4 := blk_cell g0 4 rfl
  have f0 := blk_free g0
  have hlt : w.heap.size < w1.heap.size := (Array.getElem?_eq_some_iff.1 g0).1
  have Hx1 := Lib.hid hx1
  have Hs1 := Lib.hid hs1
  clear hx1 hs1
  go_wp2_with fail
  refine (aud_may (⟨off, now, person, items, 0⟩ : Ent) A1 c1 _ _ (Hs1.out.alloc _) (by show items.length ≤ _; unfold maxLen; omega) hp hi).mono ?_
  rintro _ w2 ⟨rfl, hx2⟩
  rw [Hm.out]
  have g2 := hx2.blk (blk_old g0 _)
  clear r0 r1 r2 r3 r4 f0 g0
  have r0 := blk_cell g2 0 rfl
  have r1 := blk_cell g2 1 rfl
  have r2 := blk_cell g2 2 rfl
  have r3 := blk_cell g2 3 rfl
  have r4 := blk_cell g2 4 rfl
  have f0 := blk_free g2
  have Hx := Lib.hid (show Ext w w2 from Keeps.trans ((Keeps.trans ((Keeps.refl _ w).alloc _) Hx1.out).alloc _) hx2)
  clear hx2 g2
  go_wp2_with fail
  refine bodyPost_ret (v := .agg #[.int .i64 0, .int .i64 0, .string ⟨#[]⟩, .slice none 0 0, .int .u64 0]) (by simp [results, Tryd.results13, go_sem, r0, r1, r2, r3, r4]) rfl ⟨rfl, ?_⟩
  repeat (first | with_reducible exact Hx.out | with_reducible exact Keeps.refl _ _ | with_reducible refine Keeps.drew ?_ | with_reducible refine Keeps.drewN ?_ _ | with_reducible refine Keeps.alloc ?_ _ | with_reducible refine Keeps.setCell ?_ (by first | (intro h; simp at h; done) | (intro _; simp; done) | (intro _; simp; omega) | (intro h; simp at h; omega)) _)
end Go.Proofs.YtkfcbafmefdhmaaDoor
