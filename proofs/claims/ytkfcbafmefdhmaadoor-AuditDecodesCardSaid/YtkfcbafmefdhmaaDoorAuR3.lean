/-
  What is proved here: the document's entry of a line is the plain function's. Conditions: texts of at most a million bytes.
-/
import Derived.Test.YtkfcbafmefdhmaaDoorAuR2
import Derived.Deep.RegionHeld3
import Derived.Deep.RegionWith
import Derived.Deep.DeepCutAuto
namespace Go.Proofs.YtkfcbafmefdhmaaDoor
open Go Go.RowKit Go.Proofs
attribute [local go_sem ↓] Go.wp_at_zero Go.wp_at_succ
def refW (w0 w1 w2 w3 : List UInt8) (u : Nat) : Ent := ⟨smallI w0 1048576, smallI w1 1099511627776, bts w2, itemsP w3, u⟩
theorem small_back {l : List UInt8} {most : Int} (h : 0 ≤ smallI l most) : ∃ n : Nat, numOf l = some n ∧ smallI l most = n := by
  cases hn : numOf l with
  | none => rw [smallI_none hn] at h; omega
  | some n =>
    by_cases h1 : (n : Int) ≤ most
    · exact ⟨n, rfl, smallI_yes hn h1⟩
    · rw [smallI_no hn h1] at h; omega
theorem line_none4 {l w0 w1 w2 w3 w4 : List UInt8} (hl : partsL 32 l = [w0, w1, w2, w3, w4]) (h : numOf w4 = none) : entP l = none := by
  unfold entP
  rw [hl]
  show entF w0 w1 w2 w3 w4 = none
  unfold entF
  rw [h]
  cases numOf w0 <;> cases numOf w1 <;> rfl
theorem line_yes {l w0 w1 w2 w3 w4 : List UInt8} (hl : partsL 32 l = [w0, w1, w2, w3, w4]) {u : Nat} (h : numOf w4 = some u) (hm : mayE (refW w0 w1 w2 w3 u) = true) : entP l = some (refW w0 w1 w2 w3 u) := by
  obtain ⟨p1, _, p3, _⟩ := mayE_parts' hm
  obtain ⟨a, ha, ea⟩ := small_back p1
  obtain ⟨b, hb, eb⟩ := small_back p3
  have hr : refW w0 w1 w2 w3 u = entW a b u w2 w3 := by unfold refW entW; rw [ea, eb]
  rw [hr] at hm ⊢
  unfold entP
  rw [hl]
  show entF w0 w1 w2 w3 w4 = _
  unfold entF
  rw [ha, hb, h]
  exact if_pos hm
theorem line_no {l w0 w1 w2 w3 w4 : List UInt8} (hl : partsL 32 l = [w0, w1, w2, w3, w4]) {u : Nat} (h : numOf w4 = some u) (hm : mayE (refW w0 w1 w2 w3 u) = false) : entP l = none := by
  cases h9 : entP l with
  | none => rfl
  | some E =>
    unfold entP at h9
    rw [hl] at h9
    have h8 : entF w0 w1 w2 w3 w4 = some E := h9
    unfold entF at h8
    rw [h] at h8
    cases h0 : numOf w0 with
    | none => rw [h0] at h8; cases h8
    | some a =>
      cases h1 : numOf w1 with
      | none => rw [h0, h1] at h8; cases h8
      | some b =>
        rw [h0, h1] at h8
        have h2 : (if mayE (entW a b u w2 w3) then some (entW a b u w2 w3) else none) = some E := h8
        cases hm2 : mayE (entW a b u w2 w3) with
        | false => rw [hm2] at h2; cases h2
        | true =>
          obtain ⟨_, p2, _, p4, _⟩ := mayE_parts' hm2
          have hr : refW w0 w1 w2 w3 u = entW a b u w2 w3 := by unfold refW entW; rw [smallI_yes h0 p2, smallI_yes h1 p4]
          rw [hr, hm2] at hm
          cases hm
set_option maxRecDepth 100000 in
set_option maxHeartbeats 4000000 in
theorem ref_Line_len (s : ByteArray) (w : World) (hs : s.size ≤ 1000000) (hl : (partsL 32 s.data.toList).length ≠ 5) :
    Calls Tryd.prog 42 #[.string s] w (PeNo w) := by
  have HS := Lib.hid (fun (W : World) => ref_Parts s 32 W hs)
  have hln : ((partsL 32 s.data.toList).map bts).length = (partsL 32 s.data.toList).length := List.length_map ..
  obtain ⟨n, hn⟩ : ∃ n, n = ((partsL 32 s.data.toList).map bts).length := ⟨_, rfl⟩
  have HS' := Lib.hid (fun (W : World) => (HS.out W).mono (R' := fun e w' => ∃ A c, e = .returned (.slice A n c) ∧ Ext W w') (fun _ _ ⟨A, c, h1, _, h3⟩ => ⟨A, c, by rw [hn]; exact h1, h3⟩))
  have h8 : n ≠ 5 := by rw [hn, hln]; exact hl
  have h8' : ((n : Int) != 5) = true := by simp; omega
  have hn0 : n ≤ 1000001 := by
    have := parts_len 32 s.data.toList
    have h4 : s.data.toList.length = s.size := by simp
    omega
  clear HS hln hn hl h8
  go_enter Tryd.func42, Tryd.ntmps42
  go_wp2_with fail
  refine (HS'.out _).mono ?_
  rintro _ w1 ⟨A, c, rfl, hx1⟩
  have hg1 := hx1.blk (blk_new w _)
  have z0 := blk_cell hg1 0 rfl
  have z1 := blk_cell hg1 1 rfl
  have z2 := blk_cell hg1 2 rfl
  have z3 := blk_cell hg1 3 rfl
  have z4 := blk_cell hg1 4 rfl
  have fz := blk_free hg1
  have Hx1 := Lib.hid (Keeps.trans ((Keeps.refl (fun _ => True) w).alloc _) hx1)
  clear hx1 hg1
  go_wp2_with fail
  refine bodyPost_ret (v := .tuple #[.agg #[.int .i64 0, .int .i64 0, .string ⟨#[]⟩, .slice none 0 0, .int .u64 0], .bool false]) (by simp [results, Tryd.results42, go_sem, *]) rfl ⟨_, _, _, _, _, _, _, rfl, ?_⟩
  have hx := Hx1.out
  repeat (first | with_reducible exact hx | with_reducible exact Keeps.refl _ _ | with_reducible refine Keeps.drew ?_ | with_reducible refine Keeps.drewN ?_ _ | with_reducible refine Keeps.alloc ?_ _ | with_reducible refine Keeps.setCell ?_ (by first | (intro h; simp at h; done) | (intro _; simp; done) | (intro _; simp; omega) | (intro h; simp at h; omega)) _)
end Go.Proofs.YtkfcbafmefdhmaaDoor
