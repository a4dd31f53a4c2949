/-
  What is proved here: Entries makes a new slice of a chain's entries. Conditions: at most 100,000 entries, of at most 1,000 items each.
-/
import Derived.Test.YtkfcbafmefdhmaaDoorChain1
namespace Go.Proofs.YtkfcbafmefdhmaaDoor
open Go Go.RowKit Go.Proofs
attribute [local go_sem ↓] Go.wp_at_zero Go.wp_at_succ

set_option maxRecDepth 100000 in
set_option maxHeartbeats 4000000 in
theorem chain_Entries (b : Nat) (seed : Int) (es : List Ent) (v : Value) (w : World) (hch : ChainAt w b seed es v) (hes : es.length ≤ 100000) (hit : ∀ e ∈ es, e.items.length ≤ 1000) :
    Calls Tryd.prog 16 #[.pointer (some ⟨b, 0, none⟩)] w fun r w' => ∃ A' c', r = .returned (.slice A' es.length c') ∧ Own entR 33 (fun k => w.heap.size ≤ k) w' w.heap.size (.slice A' es.length c') es.length es ∧ Ext w w' := by
  have q1 := blk_cell hch.blk 1 rfl
  obtain ⟨A, c, rfl⟩ := hch.own.form
  have hs := hch.own.sl (ok' := fun _ => True) (fun _ _ _ _ => trivial) (fun _ _ _ => trivial)
  obtain ⟨i0, hi0, hz0, hz1, hz2⟩ := info_parts info_audEnt
  obtain ⟨n, hn⟩ : ∃ n, n = es.length := ⟨_, rfl⟩
  rw [← hn] at q1 hs hes ⊢
  have Hn := Lib.hid hn
  have Hs := Lib.hid hs
  have Hit := Lib.hid hit
  clear hch hs hit hn
  go_enter Tryd.func16, Tryd.ntmps16
  go_wp2_with fail
  go_loopw [3, 5, 11] (fun l _ i wr => ∃ (k : Nat) (Al : Option Addr) (cl : Nat), k ≤ n ∧ i = .int .i64 k ∧ l = .slice Al k cl ∧ Own entR 33 (fun k => w.heap.size ≤ k) wr w.heap.size (.slice Al k cl) k (es.take k) ∧ Ext w wr) (fun _ _ i _ => n - (intOf i).toNat)
  case atStart => exact ⟨0, none, 0, Nat.zero_le _, rfl, rfl, Own.nil_, Keeps.refl _ _⟩
  case round =>
    obtain ⟨k, Al, cl, hk, rfl, rfl, hown, hx⟩ := hrel
    by_cases hlt : k < n
    · obtain ⟨b', o, e, A', c', rfl, hb, ho, he, hc', hs', d0, d1, d2, d3, d4⟩ := (Hs.out.ext hx).ent hlt
      have hitm := Hit.out e (List.mem_of_getElem? he)
      have He := Lib.hid he
      have Hown := Lib.hid hown
      have Hx := Lib.hid hx
      have Hs' := Lib.hid hs'
      have hsz := hx.size
      clear he hown hx hs'
      go_wp2_with fail
      refine (aud_own e A' c' _ _ (Hs'.out.alloc _) (by omega)).mono ?_
      rintro _ w1 ⟨A1, c1, rfl, hc1, hs1, hx1⟩
      have Hx1 := Lib.hid (Keeps.trans ((Keeps.refl (fun _ => True) wr).alloc _) hx1)
      have Hs1 := Lib.hid (show Sl strR (off (fun k => w.heap.size ≤ k) (.slice Al k cl)) w1 A1 e.items.length e.items from
        hs1.mono (fun i _ h => ⟨by simp at h; omega, fun e' => by have := (Hown.out.lt i e').2; simp at h; omega⟩))
      have hsz1 := hx1.size
      simp only [World.size_alloc] at hsz1
      clear hx1 hs1 d0 d1 d2 d3 d4
      go_wp2_with (at_builtin; refine wpList_append_Own (ok := fun k => w.heap.size ≤ k) (R := entR) _ rfl (.tmp 15) (.tmp 18) 37 rfl 33 i0 _ 64 w.heap.size Tryd.underlying37 hi0 hz0 hz1 hz2 rfl (by decide) rfl ((Hown.out.ext Hx1.out).alloc _) _ 1 1 [e] rfl (Srcs.one_new ⟨A1, c1, rfl, hc1, Hs1.out.alloc _⟩ (blk_new _ _) rfl) (by omega) (by decide) (by simp; omega) ?_; intro A2 c2 w2 hown2 hg2 hat2; have Hext := Lib.hid (show Ext w w2 from Keeps.grown (Keeps.alloc (Keeps.trans Hx.out Hx1.out) _) hg2 (fun g hg hl => by have := (Hown.out.lt g hg).1; omega)); have Hown2 := Lib.hid hown2; clear hown2 hg2 hat2)
      go_roundw
      case rel => exact ⟨k + 1, A2, c2, by omega, by go_num, rfl, by rw [List.take_add_one, He.out]; exact Hown2.out, Hext.out⟩
      case measure => simp [intOf]; omega
    · obtain rfl : k = n := by omega
      go_wp2_with fail
      go_ret
      exact ⟨Al, cl, rfl, by rw [List.take_of_length_le (Nat.le_of_eq Hn.out.symm)] at hown; exact hown, hx⟩
end Go.Proofs.YtkfcbafmefdhmaaDoor
