/-
  What is proved here: the program's reader of a number does what the plain function says. Conditions: at most 2^30 bytes.
-/
import Derived.Test.YtihdeidaekheoaaDoorEvRd
namespace Go.Proofs.YtihdeidaekheoaaDoor
open Go Go.RowKit Go.Proofs
attribute [local go_sem ↓] Go.wp_at_zero Go.wp_at_succ

theorem u8_and127 (b : Nat) (h : b < 256) : bits .and .u8 (b : Int) 127 = ((b % 128 : Nat) : Int) := by
  have := u8_and_nat b 127 h (by decide)
  rw [show ((127 : Nat) : Int) = 127 from rfl] at this
  rw [this, show b &&& 127 = b % 128 from Nat.and_two_pow_sub_one_eq_mod b 7]
theorem wraps_i64 (n : Int) (h₀ : 0 ≤ n) (h₁ : n < 2 ^ 62) : IntKind.i64.wrap n = n := by rw [IntKind.wrap_i64]; omega
theorem or_i64 (i : Nat) (m x : Int) (hm0 : 0 ≤ m) (hm : m < 2 ^ i) (hm1 : m < 2 ^ 62) (hx0 : 0 ≤ x) (hxm : x % 2 ^ i = 0) (hx1 : x < 2 ^ 62) : bits .or .i64 m x = m + x := by
  have hc : bits .or .i64 m x = bits .or .i64 x m := by simp only [bits, BitVec.or_comm]
  rw [hc, bits_join .i64 62 (by decide) wraps_i64 i x m hx0 hxm hx1 hm0 hm hm1]; omega
set_option maxRecDepth 100000 in
set_option maxHeartbeats 4000000 in
theorem rd_number (g : Nat) (A : Option Addr) (n c : Nat) (bs : List UInt8) (r : Rd) (ok : Nat → Prop) (w : World) (hg : RdAt w g A n c r) (hs : Sl byteR ok w A n bs) (hok : ¬ ok g) (hn : n ≤ 1073741824) (hp : r.pos ≤ n) :
    Calls Tryd.prog 66 #[.pointer (some ⟨g, 0, none⟩)] w (RdPost g A n c (.int .i64 ((rNum bs 6 0 0 r).1 : Int)) (rNum bs 6 0 0 r).2 w) := by
  have Hs := Lib.hid hs
  have Hl := Lib.hid hs.1
  have Hg := Lib.hid hg
  clear hs hg
  go_enter Tryd.func66, Tryd.ntmps66
  go_wp2_with fail
  go_loopw [3, 6] (fun v i wr => ∃ (k m : Nat) (rr : Rd), k ≤ 5 ∧ i = .int .i64 k ∧ v = .int .i64 (m : Int) ∧ m < 128 ^ k ∧ rr.pos ≤ n ∧ RdAt wr g A n c rr ∧ Keeps (fun k => k ≠ g) w wr ∧ rNum bs 6 0 0 r = rNum bs (6 - k) k m rr) (fun _ i _ => 6 - (intOf i).toNat)
  case atStart => exact ⟨0, 0, r, by omega, rfl, rfl, by simp, hp, Hg.out, Keeps.refl _ _, rfl⟩
  case round =>
    obtain ⟨k, m, rr, hk, rfl, rfl, hm, hrp, hg1, hk1, heq⟩ := hrel
    have hs1 : Sl byteR ok wr A n bs := Hs.out.keep (hk1.mono (fun i _ h e => hok (e ▸ h)))
    have Hone := Lib.hid (rd_one g A n c bs rr ok wr hg1 hs1 hok hn hrp)
    have hr1 := rOne_le (bs := bs) (r := rr) (by have := Hl.out; omega)
    rw [show 6 - k = (5 - k) + 1 by omega] at heq
    have hN : rNum bs (5 - k + 1) k m rr = if (rOne bs rr).2.err ≠ 0 then (0, (rOne bs rr).2)
      else if (128 ≤ (rOne bs rr).1.toNat ∧ k = 5) ∨ ((rOne bs rr).1.toNat = 0 ∧ 0 < k) then (0, ⟨(rOne bs rr).2.pos, 2⟩)
      else if (rOne bs rr).1.toNat < 128 then (m + (rOne bs rr).1.toNat * 128 ^ k, (rOne bs rr).2)
      else rNum bs (5 - k) (k + 1) (m + ((rOne bs rr).1.toNat % 128) * 128 ^ k) (rOne bs rr).2 := rfl
    rw [hN] at heq
    clear hN hs1 hg1
    generalize rOne bs rr = x at *
    obtain ⟨cx, q, e⟩ := x
    simp only at heq hr1 Hone
    have hcx : cx.toNat < 256 := cx.toNat_lt
    obtain ⟨b, hb⟩ : ∃ b, b = cx.toNat := ⟨_, rfl⟩
    rw [← hb] at Hone heq hcx
    have Hk1 := Lib.hid hk1
    have hql : q ≤ n := by have := Hl.out; omega
    clear hb hk1 hr1
    by_cases he : e = 0
    · subst he
      rw [if_neg (by simp)] at heq
      rcases (by omega : k = 0 ∨ k = 1 ∨ k = 2 ∨ k = 3 ∨ k = 4 ∨ k = 5) with rfl | rfl | rfl | rfl | rfl | rfl
      · rw [show (128 : Nat) ^ 0 = 1 from rfl] at hm heq
        have e1 := u8_and127 b hcx
        obtain rfl : m = 0 := by omega
        rw [if_neg (by omega)] at heq
        have e2 : bits .or .i64 0 ((b : Int) % 128) = (b : Int) % 128 := by rw [or_i64 0 0 _ (by omega) (by decide) (by decide) (by omega) (by omega) (by omega)]; omega
        by_cases hb0 : b = 0
        · subst hb0
          rw [if_pos (by omega)] at heq
          have Heq := Lib.hid heq
          clear heq e1 e2 hcx
          go_wp2_with (go_at_call 64; refine Hone.out.mono ?_; rintro _ w1 ⟨rfl, hg1, hk1⟩; have Hg1 := Lib.hid hg1; have Hk2 := Lib.hid (Hk1.out.trans hk1); have q2 := blk_cell hg1 2 rfl; have f2 := blk_free hg1; clear hg1 hk1)
          go_ret
          rw [Heq.out]
          exact ⟨congrArg (fun z => Ending.returned (.int .i64 z)) (by decide +kernel : bits .or .i64 0 (wrap64 (wrap64 (bits .and .u8 0 127))) = ((0 + 0 * 1 : Nat) : Int)), Hg1.out, Hk2.out⟩
        have h0 : ((b : Int) == 0) = false := by rw [beq_eq_false_iff_ne]; omega
        by_cases hlt : b < 128
        · rw [if_pos hlt] at heq
          have Heq := Lib.hid heq
          have Hv := Lib.hid (show (b : Int) % 128 = ((0 + b * 1 : Nat) : Int) by omega)
          clear heq
          go_wp2_with (go_at_call 64; refine Hone.out.mono ?_; rintro _ w1 ⟨rfl, hg1, hk1⟩; have Hg1 := Lib.hid hg1; have Hk2 := Lib.hid (Hk1.out.trans hk1); have q2 := blk_cell hg1 2 rfl; have f2 := blk_free hg1; clear hg1 hk1)
          go_ret
          rw [Heq.out]
          exact ⟨congrArg (fun z => Ending.returned (.int .i64 z)) Hv.out, Hg1.out, Hk2.out⟩
        · rw [if_neg hlt] at heq
          have Heq := Lib.hid heq
          have Hv := Lib.hid (show (b : Int) % 128 = ((0 + b % 128 * 1 : Nat) : Int) by omega)
          clear heq
          go_wp2_with (go_at_call 64; refine Hone.out.mono ?_; rintro _ w1 ⟨rfl, hg1, hk1⟩; have Hg1 := Lib.hid hg1; have Hk2 := Lib.hid (Hk1.out.trans hk1); have q2 := blk_cell hg1 2 rfl; have f2 := blk_free hg1; clear hg1 hk1)
          go_roundw
          case rel => exact ⟨1, 0 + b % 128 * 1, ⟨q, 0⟩, by omega, by go_num, congrArg (fun z => Value.int .i64 z) Hv.out, by rw [show (128 : Nat) ^ 1 = 128 from rfl]; omega, hql, Hg1.out, Hk2.out, Heq.out⟩
          case measure => simp [intOf]
      · rw [show (128 : Nat) ^ 1 = 128 from rfl] at hm heq
        have e1 := u8_and127 b hcx
        by_cases hb0 : b = 0
        · subst hb0
          rw [if_pos (.inr ⟨rfl, by omega⟩)] at heq
          have Heq := Lib.hid heq
          clear heq
          clear e1 hcx
          go_wp2_with (go_at_call 64; refine Hone.out.mono ?_; rintro _ w1 ⟨rfl, hg1, hk1⟩; have Hg1 := Lib.hid hg1; have Hk2 := Lib.hid (Hk1.out.trans hk1); have q2 := blk_cell hg1 2 rfl; have f2 := blk_free hg1; clear hg1 hk1)
          go_ret
          rw [Heq.out]
          exact ⟨rfl, blk_set Hg1.out 2 (.int .i64 2), Keeps.setCell Hk2.out (fun _ h => h rfl) _⟩
        have h0 : ((b : Int) == 0) = false := by rw [beq_eq_false_iff_ne]; omega
        rw [if_neg (by omega)] at heq
        have e2 : bits .or .i64 (m : Int) ((b : Int) % 128 * 128) = (m : Int) + (b : Int) % 128 * 128 := or_i64 7 _ _ (by omega) (by omega) (by omega) (by omega) (by omega) (by omega)
        by_cases hlt : b < 128
        · rw [if_pos hlt] at heq
          have Heq := Lib.hid heq
          have Hv := Lib.hid (show (m : Int) + (b : Int) % 128 * 128 = ((m + b * 128 : Nat) : Int) by omega)
          clear heq
          go_wp2_with (go_at_call 64; refine Hone.out.mono ?_; rintro _ w1 ⟨rfl, hg1, hk1⟩; have Hg1 := Lib.hid hg1; have Hk2 := Lib.hid (Hk1.out.trans hk1); have q2 := blk_cell hg1 2 rfl; have f2 := blk_free hg1; clear hg1 hk1)
          go_ret
          rw [Heq.out]
          exact ⟨congrArg (fun z => Ending.returned (.int .i64 z)) Hv.out, Hg1.out, Hk2.out⟩
        · rw [if_neg hlt] at heq
          have Heq := Lib.hid heq
          have Hv := Lib.hid (show (m : Int) + (b : Int) % 128 * 128 = ((m + b % 128 * 128 : Nat) : Int) by omega)
          clear heq
          go_wp2_with (go_at_call 64; refine Hone.out.mono ?_; rintro _ w1 ⟨rfl, hg1, hk1⟩; have Hg1 := Lib.hid hg1; have Hk2 := Lib.hid (Hk1.out.trans hk1); have q2 := blk_cell hg1 2 rfl; have f2 := blk_free hg1; clear hg1 hk1)
          go_roundw
          case rel => exact ⟨2, m + b % 128 * 128, ⟨q, 0⟩, by omega, by go_num, congrArg (fun z => Value.int .i64 z) Hv.out, by rw [show (128 : Nat) ^ 2 = 16384 from rfl]; omega, hql, Hg1.out, Hk2.out, Heq.out⟩
          case measure => simp [intOf]
      · rw [show (128 : Nat) ^ 2 = 16384 from rfl] at hm heq
        have e1 := u8_and127 b hcx
        by_cases hb0 : b = 0
        · subst hb0
          rw [if_pos (.inr ⟨rfl, by omega⟩)] at heq
          have Heq := Lib.hid heq
          clear heq
          clear e1 hcx
          go_wp2_with (go_at_call 64; refine Hone.out.mono ?_; rintro _ w1 ⟨rfl, hg1, hk1⟩; have Hg1 := Lib.hid hg1; have Hk2 := Lib.hid (Hk1.out.trans hk1); have q2 := blk_cell hg1 2 rfl; have f2 := blk_free hg1; clear hg1 hk1)
          go_ret
          rw [Heq.out]
          exact ⟨rfl, blk_set Hg1.out 2 (.int .i64 2), Keeps.setCell Hk2.out (fun _ h => h rfl) _⟩
        have h0 : ((b : Int) == 0) = false := by rw [beq_eq_false_iff_ne]; omega
        rw [if_neg (by omega)] at heq
        have e2 : bits .or .i64 (m : Int) ((b : Int) % 128 * 16384) = (m : Int) + (b : Int) % 128 * 16384 := or_i64 14 _ _ (by omega) (by omega) (by omega) (by omega) (by omega) (by omega)
        by_cases hlt : b < 128
        · rw [if_pos hlt] at heq
          have Heq := Lib.hid heq
          have Hv := Lib.hid (show (m : Int) + (b : Int) % 128 * 16384 = ((m + b * 16384 : Nat) : Int) by omega)
          clear heq
          go_wp2_with (go_at_call 64; refine Hone.out.mono ?_; rintro _ w1 ⟨rfl, hg1, hk1⟩; have Hg1 := Lib.hid hg1; have Hk2 := Lib.hid (Hk1.out.trans hk1); have q2 := blk_cell hg1 2 rfl; have f2 := blk_free hg1; clear hg1 hk1)
          go_ret
          rw [Heq.out]
          exact ⟨congrArg (fun z => Ending.returned (.int .i64 z)) Hv.out, Hg1.out, Hk2.out⟩
        · rw [if_neg hlt] at heq
          have Heq := Lib.hid heq
          have Hv := Lib.hid (show (m : Int) + (b : Int) % 128 * 16384 = ((m + b % 128 * 16384 : Nat) : Int) by omega)
          clear heq
          go_wp2_with (go_at_call 64; refine Hone.out.mono ?_; rintro _ w1 ⟨rfl, hg1, hk1⟩; have Hg1 := Lib.hid hg1; have Hk2 := Lib.hid (Hk1.out.trans hk1); have q2 := blk_cell hg1 2 rfl; have f2 := blk_free hg1; clear hg1 hk1)
          go_roundw
          case rel => exact ⟨3, m + b % 128 * 16384, ⟨q, 0⟩, by omega, by go_num, congrArg (fun z => Value.int .i64 z) Hv.out, by rw [show (128 : Nat) ^ 3 = 2097152 from rfl]; omega, hql, Hg1.out, Hk2.out, Heq.out⟩
          case measure => simp [intOf]
      · rw [show (128 : Nat) ^ 3 = 2097152 from rfl] at hm heq
        have e1 := u8_and127 b hcx
        by_cases hb0 : b = 0
        · subst hb0
          rw [if_pos (.inr ⟨rfl, by omega⟩)] at heq
          have Heq := Lib.hid heq
          clear heq
          clear e1 hcx
          go_wp2_with (go_at_call 64; refine Hone.out.mono ?_; rintro _ w1 ⟨rfl, hg1, hk1⟩; have Hg1 := Lib.hid hg1; have Hk2 := Lib.hid (Hk1.out.trans hk1); have q2 := blk_cell hg1 2 rfl; have f2 := blk_free hg1; clear hg1 hk1)
          go_ret
          rw [Heq.out]
          exact ⟨rfl, blk_set Hg1.out 2 (.int .i64 2), Keeps.setCell Hk2.out (fun _ h => h rfl) _⟩
        have h0 : ((b : Int) == 0) = false := by rw [beq_eq_false_iff_ne]; omega
        rw [if_neg (by omega)] at heq
        have e2 : bits .or .i64 (m : Int) ((b : Int) % 128 * 2097152) = (m : Int) + (b : Int) % 128 * 2097152 := or_i64 21 _ _ (by omega) (by omega) (by omega) (by omega) (by omega) (by omega)
        by_cases hlt : b < 128
        · rw [if_pos hlt] at heq
          have Heq := Lib.hid heq
          have Hv := Lib.hid (show (m : Int) + (b : Int) % 128 * 2097152 = ((m + b * 2097152 : Nat) : Int) by omega)
          clear heq
          go_wp2_with (go_at_call 64; refine Hone.out.mono ?_; rintro _ w1 ⟨rfl, hg1, hk1⟩; have Hg1 := Lib.hid hg1; have Hk2 := Lib.hid (Hk1.out.trans hk1); have q2 := blk_cell hg1 2 rfl; have f2 := blk_free hg1; clear hg1 hk1)
          go_ret
          rw [Heq.out]
          exact ⟨congrArg (fun z => Ending.returned (.int .i64 z)) Hv.out, Hg1.out, Hk2.out⟩
        · rw [if_neg hlt] at heq
          have Heq := Lib.hid heq
          have Hv := Lib.hid (show (m : Int) + (b : Int) % 128 * 2097152 = ((m + b % 128 * 2097152 : Nat) : Int) by omega)
          clear heq
          go_wp2_with (go_at_call 64; refine Hone.out.mono ?_; rintro _ w1 ⟨rfl, hg1, hk1⟩; have Hg1 := Lib.hid hg1; have Hk2 := Lib.hid (Hk1.out.trans hk1); have q2 := blk_cell hg1 2 rfl; have f2 := blk_free hg1; clear hg1 hk1)
          go_roundw
          case rel => exact ⟨4, m + b % 128 * 2097152, ⟨q, 0⟩, by omega, by go_num, congrArg (fun z => Value.int .i64 z) Hv.out, by rw [show (128 : Nat) ^ 4 = 268435456 from rfl]; omega, hql, Hg1.out, Hk2.out, Heq.out⟩
          case measure => simp [intOf]
      · rw [show (128 : Nat) ^ 4 = 268435456 from rfl] at hm heq
        have e1 := u8_and127 b hcx
        by_cases hb0 : b = 0
        · subst hb0
          rw [if_pos (.inr ⟨rfl, by omega⟩)] at heq
          have Heq := Lib.hid heq
          clear heq
          clear e1 hcx
          go_wp2_with (go_at_call 64; refine Hone.out.mono ?_; rintro _ w1 ⟨rfl, hg1, hk1⟩; have Hg1 := Lib.hid hg1; have Hk2 := Lib.hid (Hk1.out.trans hk1); have q2 := blk_cell hg1 2 rfl; have f2 := blk_free hg1; clear hg1 hk1)
          go_ret
          rw [Heq.out]
          exact ⟨rfl, blk_set Hg1.out 2 (.int .i64 2), Keeps.setCell Hk2.out (fun _ h => h rfl) _⟩
        have h0 : ((b : Int) == 0) = false := by rw [beq_eq_false_iff_ne]; omega
        rw [if_neg (by omega)] at heq
        have e2 : bits .or .i64 (m : Int) ((b : Int) % 128 * 268435456) = (m : Int) + (b : Int) % 128 * 268435456 := or_i64 28 _ _ (by omega) (by omega) (by omega) (by omega) (by omega) (by omega)
        by_cases hlt : b < 128
        · rw [if_pos hlt] at heq
          have Heq := Lib.hid heq
          have Hv := Lib.hid (show (m : Int) + (b : Int) % 128 * 268435456 = ((m + b * 268435456 : Nat) : Int) by omega)
          clear heq
          go_wp2_with (go_at_call 64; refine Hone.out.mono ?_; rintro _ w1 ⟨rfl, hg1, hk1⟩; have Hg1 := Lib.hid hg1; have Hk2 := Lib.hid (Hk1.out.trans hk1); have q2 := blk_cell hg1 2 rfl; have f2 := blk_free hg1; clear hg1 hk1)
          go_ret
          rw [Heq.out]
          exact ⟨congrArg (fun z => Ending.returned (.int .i64 z)) Hv.out, Hg1.out, Hk2.out⟩
        · rw [if_neg hlt] at heq
          have Heq := Lib.hid heq
          have Hv := Lib.hid (show (m : Int) + (b : Int) % 128 * 268435456 = ((m + b % 128 * 268435456 : Nat) : Int) by omega)
          clear heq
          go_wp2_with (go_at_call 64; refine Hone.out.mono ?_; rintro _ w1 ⟨rfl, hg1, hk1⟩; have Hg1 := Lib.hid hg1; have Hk2 := Lib.hid (Hk1.out.trans hk1); have q2 := blk_cell hg1 2 rfl; have f2 := blk_free hg1; clear hg1 hk1)
          go_roundw
          case rel => exact ⟨5, m + b % 128 * 268435456, ⟨q, 0⟩, by omega, by go_num, congrArg (fun z => Value.int .i64 z) Hv.out, by rw [show (128 : Nat) ^ 5 = 34359738368 from rfl]; omega, hql, Hg1.out, Hk2.out, Heq.out⟩
          case measure => simp [intOf]
      · rw [show (128 : Nat) ^ 5 = 34359738368 from rfl] at hm heq
        have e1 := u8_and127 b hcx
        by_cases hb0 : b = 0
        · subst hb0
          rw [if_pos (.inr ⟨rfl, by omega⟩)] at heq
          have Heq := Lib.hid heq
          clear heq
          clear e1 hcx
          go_wp2_with (go_at_call 64; refine Hone.out.mono ?_; rintro _ w1 ⟨rfl, hg1, hk1⟩; have Hg1 := Lib.hid hg1; have Hk2 := Lib.hid (Hk1.out.trans hk1); have q2 := blk_cell hg1 2 rfl; have f2 := blk_free hg1; clear hg1 hk1)
          go_ret
          rw [Heq.out]
          exact ⟨rfl, blk_set Hg1.out 2 (.int .i64 2), Keeps.setCell Hk2.out (fun _ h => h rfl) _⟩
        have h0 : ((b : Int) == 0) = false := by rw [beq_eq_false_iff_ne]; omega
        by_cases hbig : 128 ≤ b
        · rw [if_pos (.inl ⟨hbig, rfl⟩)] at heq
          have Heq := Lib.hid heq
          clear heq
          go_wp2_with (go_at_call 64; refine Hone.out.mono ?_; rintro _ w1 ⟨rfl, hg1, hk1⟩; have Hg1 := Lib.hid hg1; have Hk2 := Lib.hid (Hk1.out.trans hk1); have q2 := blk_cell hg1 2 rfl; have f2 := blk_free hg1; clear hg1 hk1)
          go_ret
          rw [Heq.out]
          exact ⟨rfl, blk_set Hg1.out 2 (.int .i64 2), Keeps.setCell Hk2.out (fun _ h => h rfl) _⟩
        rw [if_neg (by omega)] at heq
        have e2 : bits .or .i64 (m : Int) ((b : Int) % 128 * 34359738368) = (m : Int) + (b : Int) % 128 * 34359738368 := or_i64 35 _ _ (by omega) (by omega) (by omega) (by omega) (by omega) (by omega)
        by_cases hlt : b < 128
        · rw [if_pos hlt] at heq
          have Heq := Lib.hid heq
          have Hv := Lib.hid (show (m : Int) + (b : Int) % 128 * 34359738368 = ((m + b * 34359738368 : Nat) : Int) by omega)
          clear heq
          go_wp2_with (go_at_call 64; refine Hone.out.mono ?_; rintro _ w1 ⟨rfl, hg1, hk1⟩; have Hg1 := Lib.hid hg1; have Hk2 := Lib.hid (Hk1.out.trans hk1); have q2 := blk_cell hg1 2 rfl; have f2 := blk_free hg1; clear hg1 hk1)
          go_ret
          rw [Heq.out]
          exact ⟨congrArg (fun z => Ending.returned (.int .i64 z)) Hv.out, Hg1.out, Hk2.out⟩
        · omega
    · rw [if_pos he] at heq
      have Heq := Lib.hid heq
      have h0 : (e != 0) = true := by simpa using he
      clear heq he
      go_wp2_with (go_at_call 64; refine Hone.out.mono ?_; rintro _ w1 ⟨rfl, hg1, hk1⟩; have Hg1 := Lib.hid hg1; have Hk2 := Lib.hid (Hk1.out.trans hk1); have q2 := blk_cell hg1 2 rfl; clear hg1 hk1)
      go_ret
      rw [Heq.out]
      exact ⟨rfl, Hg1.out, Hk2.out⟩
end Go.Proofs.YtihdeidaekheoaaDoor
