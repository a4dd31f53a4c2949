/-
  What is proved here: told and handed make a new slice of the same entries. Conditions: at most a million entries; what they lead to is older than the call.
-/
import Derived.Test.YtkfcbafmefdhmaaDoorEnt1
namespace Go.Proofs.YtkfcbafmefdhmaaDoor
open Go Go.RowKit Go.Proofs
attribute [local go_sem ↓] Go.wp_at_zero Go.wp_at_succ
theorem info_refEnt : (Tryd.prog.info? 30).map (fun i => (i.zero, i.size, i.bytes)) = some (some (.agg #[.int .i64 0, .int .i64 0, .string ⟨#[]⟩, .slice none 0 0, .int .u64 0]), 5, 64) := by kernel_rfl
theorem info_audEnt : (Tryd.prog.info? 33).map (fun i => (i.zero, i.size, i.bytes)) = some (some (.agg #[.int .i64 0, .int .i64 0, .string ⟨#[]⟩, .slice none 0 0, .int .u64 0]), 5, 64) := by kernel_rfl

set_option maxRecDepth 100000 in
set_option maxHeartbeats 2000000 in
theorem law_told (A : Option Addr) (n c : Nat) (es : List Ent) (ok : Nat → Prop) (w : World) (hs : Sl entR ok w A n es) (hn : n ≤ 1000000) (hok : ∀ k, ok k → k < w.heap.size) :
    Calls Tryd.prog 15 #[.slice A n c] w fun e w' => ∃ v, e = .returned v ∧ Own entR 30 ok w' w.heap.size v n es ∧ Ext w w' := by
  obtain ⟨i0, hi0, hz0, hz1, hz2⟩ := info_parts info_refEnt
  go_enter Tryd.func15, Tryd.ntmps15
  go_wp2
  go_loopw [3, 4] (fun v i wr => ∃ k : Nat, k ≤ n ∧ i = .int .i64 k ∧ Own entR 30 ok wr w.heap.size v k (es.take k) ∧ Ext w wr) (fun _ i _ => n - (intOf i).toNat)
  case atStart => exact ⟨0, Nat.zero_le _, rfl, Own.nil_, Keeps.refl _ _⟩
  case round =>
    obtain ⟨k, hk, rfl, hown, hx⟩ := hrel
    by_cases hlt : k < n
    · have Hs := Lib.hid hs
      obtain ⟨b, o, a, A', c', rfl, hb, ho, ha, hc', hs', d0, d1, d2, d3, d4⟩ := hs.ent hlt
      have Ha := Lib.hid ha
      have Hx := Lib.hid hx
      have Ho := Lib.hid (Old.of_ext hx)
      have Hok := Lib.hid hok
      have b0 : (0 : Int) ≤ (k : Int) := by omega
      have b1 : (k : Int) < (n : Int) := by omega
      have Hm := Lib.hid (show ∀ i, i < wr.heap.size → ok i → off ok u3 i from fun i _ h => ⟨h, fun e => by have := (hown.lt i e).1; have := hok i h; omega⟩)
      have hnew := fun (X : World) (o : Obj) => heap_alloc_new X o
      have hsz := hx.size
      clear ha hs hx hok
      go_wp2
      go_region_held3 (fun w' => w.heap.size ≤ w'.heap.size ∧ ∀ p : Addr, p.block < w.heap.size → w'.cell? p = w.cell? p) (repeat (first | assumption | exact Ho.out | refine Old.drew ?_ | refine Old.alloc ?_ _)) ((refine step_append_Own (ok := ok) (R := entR) _ rfl (.tmp 11) (.tmp 38) 23 rfl 30 i0 _ 64 w.heap.size Tryd.underlying23 hi0 hz0 hz1 hz2 rfl (by decide) rfl (hown.ext (by repeat (first | with_reducible exact Keeps.refl _ _ | with_reducible refine Keeps.drew ?_ | with_reducible refine Keeps.drewN ?_ _ | with_reducible refine Keeps.alloc ?_ _))) _ 1 1 [a] rfl (Srcs.one_new ⟨A', c', rfl, hc', ((hs'.ext Hx.out).mono (Hm.out)).ext (by repeat (first | with_reducible exact Keeps.refl _ _ | with_reducible refine Keeps.drew ?_ | with_reducible refine Keeps.drewN ?_ _ | with_reducible refine Keeps.alloc ?_ _))⟩ (hnew _ _) rfl) (by omega) (by decide) (by simp; omega) ?_; intro A1 c1 w1 hown1 hg1 hat1; have hold1 : Old w w1 := Old.grown (by repeat (first | with_reducible exact Ho.out | with_reducible exact Old.refl _ | with_reducible refine Old.drew ?_ | with_reducible refine Old.drewN ?_ _ | with_reducible refine Old.alloc ?_ _)) hg1 (fun g hg => (hown.lt g hg).1)))
      have Hext := Lib.hid (show Ext w w1 from Keeps.grown (by repeat (first | with_reducible exact Hx.out | with_reducible exact Keeps.refl _ _ | with_reducible refine Keeps.drew ?_ | with_reducible refine Keeps.drewN ?_ _ | with_reducible refine Keeps.alloc ?_ _)) hg1 (fun g hg hl => by have := (hown.lt g hg).1; omega))
      have Hown1 := Lib.hid hown1
      clear hown1 hg1 hat1 hold1 hown
      go_wp2
      go_roundw
      case rel => exact ⟨k + 1, by omega, by go_num, by rw [List.take_add_one, Ha.out]; exact Hown1.out, Hext.out⟩
      case measure => simp [intOf]; omega
    · obtain rfl : k = n := by omega
      go_wp2
      go_ret
      exact ⟨_, rfl, by rw [List.take_of_length_le (by have := hs.1; omega)] at hown; exact hown, hx⟩
set_option maxRecDepth 100000 in
set_option maxHeartbeats 2000000 in
theorem law_handed (A : Option Addr) (n c : Nat) (es : List Ent) (ok : Nat → Prop) (w : World) (hs : Sl entR ok w A n es) (hn : n ≤ 1000000) (hok : ∀ k, ok k → k < w.heap.size) :
    Calls Tryd.prog 20 #[.slice A n c] w fun e w' => ∃ v, e = .returned v ∧ Own entR 33 ok w' w.heap.size v n es ∧ Ext w w' := by
  obtain ⟨i0, hi0, hz0, hz1, hz2⟩ := info_parts info_audEnt
  go_enter Tryd.func20, Tryd.ntmps20
  go_wp2
  go_loopw [3, 4] (fun v i wr => ∃ k : Nat, k ≤ n ∧ i = .int .i64 k ∧ Own entR 33 ok wr w.heap.size v k (es.take k) ∧ Ext w wr) (fun _ i _ => n - (intOf i).toNat)
  case atStart => exact ⟨0, Nat.zero_le _, rfl, Own.nil_, Keeps.refl _ _⟩
  case round =>
    obtain ⟨k, hk, rfl, hown, hx⟩ := hrel
    by_cases hlt : k < n
    · have Hs := Lib.hid hs
      obtain ⟨b, o, a, A', c', rfl, hb, ho, ha, hc', hs', d0, d1, d2, d3, d4⟩ := hs.ent hlt
      have Ha := Lib.hid ha
      have Hx := Lib.hid hx
      have Ho := Lib.hid (Old.of_ext hx)
      have Hok := Lib.hid hok
      have b0 : (0 : Int) ≤ (k : Int) := by omega
      have b1 : (k : Int) < (n : Int) := by omega
      have Hm := Lib.hid (show ∀ i, i < wr.heap.size → ok i → off ok u3 i from fun i _ h => ⟨h, fun e => by have := (hown.lt i e).1; have := hok i h; omega⟩)
      have hnew := fun (X : World) (o : Obj) => heap_alloc_new X o
      have hsz := hx.size
      clear ha hs hx hok
      go_wp2
      go_region_held3 (fun w' => w.heap.size ≤ w'.heap.size ∧ ∀ p : Addr, p.block < w.heap.size → w'.cell? p = w.cell? p) (repeat (first | assumption | exact Ho.out | refine Old.drew ?_ | refine Old.alloc ?_ _)) ((refine step_append_Own (ok := ok) (R := entR) _ rfl (.tmp 11) (.tmp 38) 37 rfl 33 i0 _ 64 w.heap.size Tryd.underlying37 hi0 hz0 hz1 hz2 rfl (by decide) rfl (hown.ext (by repeat (first | with_reducible exact Keeps.refl _ _ | with_reducible refine Keeps.drew ?_ | with_reducible refine Keeps.drewN ?_ _ | with_reducible refine Keeps.alloc ?_ _))) _ 1 1 [a] rfl (Srcs.one_new ⟨A', c', rfl, hc', ((hs'.ext Hx.out).mono (Hm.out)).ext (by repeat (first | with_reducible exact Keeps.refl _ _ | with_reducible refine Keeps.drew ?_ | with_reducible refine Keeps.drewN ?_ _ | with_reducible refine Keeps.alloc ?_ _))⟩ (hnew _ _) rfl) (by omega) (by decide) (by simp; omega) ?_; intro A1 c1 w1 hown1 hg1 hat1; have hold1 : Old w w1 := Old.grown (by repeat (first | with_reducible exact Ho.out | with_reducible exact Old.refl _ | with_reducible refine Old.drew ?_ | with_reducible refine Old.drewN ?_ _ | with_reducible refine Old.alloc ?_ _)) hg1 (fun g hg => (hown.lt g hg).1)))
      have Hext := Lib.hid (show Ext w w1 from Keeps.grown (by repeat (first | with_reducible exact Hx.out | with_reducible exact Keeps.refl _ _ | with_reducible refine Keeps.drew ?_ | with_reducible refine Keeps.drewN ?_ _ | with_reducible refine Keeps.alloc ?_ _)) hg1 (fun g hg hl => by have := (hown.lt g hg).1; omega))
      have Hown1 := Lib.hid hown1
      clear hown1 hg1 hat1 hold1 hown
      go_wp2
      go_roundw
      case rel => exact ⟨k + 1, by omega, by go_num, by rw [List.take_add_one, Ha.out]; exact Hown1.out, Hext.out⟩
      case measure => simp [intOf]; omega
    · obtain rfl : k = n := by omega
      go_wp2
      go_ret
      exact ⟨_, rfl, by rw [List.take_of_length_le (by have := hs.1; omega)] at hown; exact hown, hx⟩
end Go.Proofs.YtkfcbafmefdhmaaDoor
