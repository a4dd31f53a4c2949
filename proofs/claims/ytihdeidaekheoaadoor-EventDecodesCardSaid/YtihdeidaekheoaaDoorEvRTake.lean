/-
  What is proved here: the document's take and count read what the plain reader reads. Conditions: at most 2^30 bytes.
-/
import Derived.Test.YtihdeidaekheoaaDoorEvCut
namespace Go.Proofs.YtihdeidaekheoaaDoor
open Go Go.RowKit Go.Proofs
attribute [local go_sem ↓] Go.wp_at_zero Go.wp_at_succ

def takeV (x : List UInt8 × Rd) : Value := if x.2.err = 0 then .tuple #[.string (bts x.1), .int .i64 (x.2.pos : Int)] else .tuple #[.string ⟨#[]⟩, .int .i64 (-1)]
def countV (x : Nat × Rd) : Value := if x.2.err = 0 then .tuple #[.int .i64 (x.1 : Int), .int .i64 (x.2.pos : Int), .int .i64 0] else .tuple #[.int .i64 0, .int .i64 0, .int .i64 x.2.err]
theorem rText_torn1 {bs : List UInt8} {p : Nat} (h : bs.length ≤ p) : rText bs ⟨p, 0⟩ = ([], ⟨p, 3⟩) := by
  have h1 : rOne bs ⟨p, 0⟩ = (0, ⟨p, 3⟩) := by unfold rOne; rw [if_neg (by simp), if_pos h]
  unfold rText; rw [h1]; rfl
theorem rOne_byte {bs : List UInt8} {p : Nat} {x : UInt8} (h : bs[p]? = some x) : rOne bs ⟨p, 0⟩ = (x, ⟨p + 1, 0⟩) := by
  have hl := (List.getElem?_eq_some_iff.1 h).1
  unfold rOne
  rw [if_neg (by simp), if_neg (by simp only; omega)]
  simp only [List.getD_eq_getElem?_getD, h]; rfl
theorem rText_byte {bs : List UInt8} {p : Nat} {x : UInt8} (h : bs[p]? = some x) : rText bs ⟨p, 0⟩ = if bs.length - (p + 1) < x.toNat then ([], ⟨p + 1, 3⟩) else ((bs.drop (p + 1)).take x.toNat, ⟨p + 1 + x.toNat, 0⟩) := by
  unfold rText; rw [rOne_byte h]; rfl

set_option maxRecDepth 100000 in
set_option maxHeartbeats 4000000 in
theorem ref_take (A : Option Addr) (n c : Nat) (bs : List UInt8) (p : Nat) (ok : Nat → Prop) (w : World) (hs : Sl byteR ok w A n bs) (hn : n ≤ 1073741824) (hnc : n ≤ c) (hp : p ≤ n) :
    Calls Tryd.prog 67 #[.slice A n c, .int .i64 (p : Int)] w fun r w' => r = .returned (takeV (rText bs ⟨p, 0⟩)) ∧ w = w' := by
  have hl := hs.1
  by_cases hlt : p < n
  · obtain ⟨b, o, x, rfl, hb, hob, hx, hc⟩ := hs.byte hlt
    have hT := rText_byte hx
    have hx256 := x.toNat_lt
    obtain ⟨k, hk⟩ : ∃ k, k = x.toNat := ⟨_, rfl⟩
    rw [← hk] at hT hc hx256
    have i0 : (0 : Int) ≤ (p : Int) := by omega
    have i1 : (p : Int) < (n : Int) := by omega
    by_cases hsh : n - (p + 1) < k
    · rw [if_pos (by omega)] at hT
      have HT := Lib.hid (show takeV (rText bs ⟨p, 0⟩) = .tuple #[.string ⟨#[]⟩, .int .i64 (-1)] by rw [hT]; rfl)
      have z1 : decide ((n : Int) < (p : Int) + 1 + (k : Int)) = true := by simp; omega
      clear hT hk hx hs hl
      go_enter Tryd.func67, Tryd.ntmps67
      go_wp2_with fail
      go_ret2
      exact ⟨by rw [HT.out]; rfl, rfl⟩
    · rw [if_neg (by omega)] at hT
      have HT := Lib.hid (show takeV (rText bs ⟨p, 0⟩) = .tuple #[.string (bts ((bs.drop (p + 1)).take k)), .int .i64 ((p + 1 + k : Nat) : Int)] by rw [hT]; rfl)
      have z1 : decide ((n : Int) < (p : Int) + 1 + (k : Int)) = false := by simp; omega
      have j0 : (0 : Int) ≤ (p : Int) + 1 := by omega
      have j1 : (p : Int) + 1 ≤ (p : Int) + 1 + (k : Int) := by omega
      have j2 : (p : Int) + 1 + (k : Int) ≤ (c : Int) := by omega
      have h1 : ((p : Int) + 1).toNat = p + 1 := by omega
      have h2 : ((p : Int) + 1 + (k : Int)).toNat = p + 1 + k := by omega
      have hcv := text_of_sl (P := Tryd.prog) 28 9 5 (p + 1) k (c - (p + 1)) Tryd.underlying28 Tryd.underlying5 Tryd.underlying9 hs (by omega) 0
      have hcv0 := text_of_sl (P := Tryd.prog) 28 9 5 0 0 0 Tryd.underlying28 Tryd.underlying5 Tryd.underlying9 hs (by omega) 0
      obtain ⟨S, hS⟩ : ∃ S, S = bts ((bs.drop (p + 1)).take k) := ⟨_, rfl⟩
      rw [← hS] at hcv HT
      have hw0 : w.drewN 0 = w := rfl
      rw [hw0] at hcv hcv0
      have e9 : bts ((bs.drop 0).take 0) = ⟨#[]⟩ := rfl
      rw [e9] at hcv0
      simp only [Nat.add_zero] at hcv0
      by_cases hcp : c = p + 1
      · obtain rfl : k = 0 := by omega
        have hS0 : S = ⟨#[]⟩ := by rw [hS]; rfl
        rw [hS0] at HT
        clear hT hk hx hs hl hS hS0 hcv h2
        go_enter Tryd.func67, Tryd.ntmps67
        go_wp2_with fail
        go_ret2
        refine ⟨?_, rfl⟩
        rw [HT.out]
        simp
      · clear hT hk hx hs hl hS hcv0
        go_enter Tryd.func67, Tryd.ntmps67
        go_wp2_with fail
        go_ret2
        refine ⟨?_, rfl⟩
        rw [HT.out]
        simp
  · obtain rfl : p = n := by omega
    have HT := Lib.hid (show takeV (rText bs ⟨p, 0⟩) = .tuple #[.string ⟨#[]⟩, .int .i64 (-1)] by rw [rText_torn1 (by omega)]; rfl)
    clear hs hl
    go_enter Tryd.func67, Tryd.ntmps67
    go_wp2_with fail
    go_ret2
    exact ⟨by rw [HT.out]; rfl, rfl⟩

def CountAt (bs : List UInt8) (p k m : Nat) : Prop := (k ≤ 5 ∧ m < 128 ^ k ∧ rNum bs 6 0 0 ⟨p, 0⟩ = rNum bs (6 - k) k m ⟨p + k, 0⟩) ∨ (k = 6 ∧ m < 128 ^ 6 ∧ (rNum bs 6 0 0 ⟨p, 0⟩).2.err = 2)
set_option maxRecDepth 100000 in
set_option maxHeartbeats 8000000 in
theorem ref_count (A : Option Addr) (n c : Nat) (bs : List UInt8) (p : Nat) (ok : Nat → Prop) (w : World) (hs : Sl byteR ok w A n bs) (hn : n ≤ 1073741824) (hp : p ≤ n) :
    Calls Tryd.prog 68 #[.slice A n c, .int .i64 (p : Int)] w fun r w' => r = .returned (countV (rNum bs 6 0 0 ⟨p, 0⟩)) ∧ w = w' := by
  have Hs := Lib.hid hs
  have Hl := Lib.hid hs.1
  clear hs
  go_enter Tryd.func68, Tryd.ntmps68
  go_wp2_with fail
  go_loop [7, 8, 9] (fun v q i => ∃ k m : Nat, k ≤ 6 ∧ i = .int .i64 k ∧ v = .int .i64 m ∧ q = .int .i64 ((128 ^ k : Nat) : Int) ∧ CountAt bs p k m) (fun _ _ i => 6 - (intOf i).toNat)
  case atStart => exact ⟨0, 0, by omega, rfl, rfl, rfl, .inl ⟨by omega, by simp, rfl⟩⟩
  case round =>
    obtain ⟨k, m, hk, rfl, rfl, rfl, hat⟩ := hrel
    rcases (by omega : k = 0 ∨ k = 1 ∨ k = 2 ∨ k = 3 ∨ k = 4 ∨ k = 5 ∨ k = 6) with rfl | rfl | rfl | rfl | rfl | rfl | rfl
    · obtain ⟨_, hm, heq⟩ : 0 ≤ 5 ∧ m < 128 ^ 0 ∧ rNum bs 6 0 0 ⟨p, 0⟩ = rNum bs (6 - 0) 0 m ⟨p + 0, 0⟩ := by
        rcases hat with h | ⟨h, _⟩
        · exact h
        · omega
      rw [show (128 : Nat) ^ 0 = 1 from rfl] at hm ⊢
      rw [show 6 - 0 = 5 + 1 from rfl, rNum_step bs 5 0 m ⟨p + 0, 0⟩] at heq
      by_cases hlt : p + 0 < n
      · obtain ⟨b, o, x, rfl, hb, hob, hx, hc⟩ := Hs.out.byte hlt
        rw [rOne_byte hx] at heq
        simp only at heq
        rw [if_neg (by simp)] at heq
        have hx256 := x.toNat_lt
        obtain ⟨y, hy⟩ : ∃ y, y = x.toNat := ⟨_, rfl⟩
        rw [← hy] at heq hc hx256
        simp only [Nat.add_zero] at hc hlt heq
        have i0 : (0 : Int) ≤ (p : Int) := by omega
        have i1 : (p : Int) < (n : Int) := by omega
        by_cases hy128 : y < 128
        · by_cases hy0 : y = 0
          · subst hy0
            rw [if_neg (by omega), if_pos (by omega)] at heq
            obtain rfl : m = 0 := by omega
            have HT := Lib.hid (show countV (rNum bs 6 0 0 ⟨p, 0⟩) = .tuple #[.int .i64 0, .int .i64 ((p + 1 : Nat) : Int), .int .i64 0] by rw [heq]; rfl)
            clear heq hat hy hx hx256
            go_wp2_with fail
            refine bodyPost_ret (v := countV (rNum bs 6 0 0 ⟨p, 0⟩)) (by rw [HT.out]; simp [results, Tryd.results68, go_sem]) rfl ⟨rfl, rfl⟩
          · rw [if_neg (by omega), if_pos hy128] at heq
            have hyb : ((y : Int) == 0) = false := by rw [beq_eq_false_iff_ne]; omega
            have HT := Lib.hid (show countV (rNum bs 6 0 0 ⟨p, 0⟩) = .tuple #[.int .i64 ((m : Int) + (y : Int) % 128 * 1), .int .i64 ((p : Int) + 0 + 1), .int .i64 0] by rw [heq]; unfold countV; simp only [if_true]; rw [show ((m + y * 128 ^ 0 : Nat) : Int) = (m : Int) + (y : Int) % 128 * 1 by rw [show (128 : Nat) ^ 0 = 1 from rfl]; omega, show ((p + 0 + 1 : Nat) : Int) = (p : Int) + 0 + 1 by omega])
            clear heq hat hy hx
            go_wp2_with fail
            refine bodyPost_ret (v := countV (rNum bs 6 0 0 ⟨p, 0⟩)) (by rw [HT.out]; simp [results, Tryd.results68, go_sem]) rfl ⟨rfl, rfl⟩
        · rw [if_neg (by omega), if_neg hy128] at heq
          have Hst := Lib.hid (show CountAt bs p 1 (m + y % 128 * 128 ^ 0) from .inl ⟨by omega, by rw [show (128 : Nat) ^ 0 = 1 from rfl, show (128 : Nat) ^ 1 = 128 from rfl]; omega, heq⟩)
          have Hv := Lib.hid (show (m : Int) + (y : Int) % 128 * 1 = ((m + y % 128 * 128 ^ 0 : Nat) : Int) by rw [show (128 : Nat) ^ 0 = 1 from rfl]; omega)
          clear heq hat hy hx
          go_wp2_with fail
          go_round
          case rel => exact ⟨1, m + y % 128 * 128 ^ 0, by omega, by go_num, by first | exact congrArg (fun z => Value.int .i64 z) Hv.out | (have := Hv.out; simp at this ⊢; done) | (have := Hv.out; simp at this ⊢; omega), rfl, Hst.out⟩
          case measure => simp [intOf]
      · have h1 : rOne bs ⟨p + 0, 0⟩ = (0, ⟨p + 0, 3⟩) := by unfold rOne; rw [if_neg (by simp), if_pos (by simp only; have := Hl.out; omega)]
        rw [h1] at heq
        simp only at heq
        rw [if_pos (by decide)] at heq
        have HT := Lib.hid (show countV (rNum bs 6 0 0 ⟨p, 0⟩) = .tuple #[.int .i64 0, .int .i64 0, .int .i64 3] by rw [heq]; rfl)
        have z1 : decide ((n : Int) ≤ (p : Int)) = true := by simp; omega
        clear heq hat h1
        go_wp2_with fail
        refine bodyPost_ret (v := countV (rNum bs 6 0 0 ⟨p, 0⟩)) (by rw [HT.out]; simp [results, Tryd.results68, go_sem]) rfl ⟨rfl, rfl⟩
    · obtain ⟨_, hm, heq⟩ : 1 ≤ 5 ∧ m < 128 ^ 1 ∧ rNum bs 6 0 0 ⟨p, 0⟩ = rNum bs (6 - 1) 1 m ⟨p + 1, 0⟩ := by
        rcases hat with h | ⟨h, _⟩
        · exact h
        · omega
      rw [show (128 : Nat) ^ 1 = 128 from rfl] at hm ⊢
      rw [show 6 - 1 = 4 + 1 from rfl, rNum_step bs 4 1 m ⟨p + 1, 0⟩] at heq
      by_cases hlt : p + 1 < n
      · obtain ⟨b, o, x, rfl, hb, hob, hx, hc⟩ := Hs.out.byte hlt
        rw [rOne_byte hx] at heq
        simp only at heq
        rw [if_neg (by simp)] at heq
        have hx256 := x.toNat_lt
        obtain ⟨y, hy⟩ : ∃ y, y = x.toNat := ⟨_, rfl⟩
        rw [← hy] at heq hc hx256
        have i0 : (0 : Int) ≤ (p : Int) + 1 := by omega
        have i1 : (p : Int) + 1 < (n : Int) := by omega
        have it : ((p : Int) + 1).toNat = p + 1 := by omega
        by_cases hy128 : y < 128
        · by_cases hy0 : y = 0
          · subst hy0
            rw [if_pos (by omega)] at heq
            have HT := Lib.hid (show countV (rNum bs 6 0 0 ⟨p, 0⟩) = .tuple #[.int .i64 0, .int .i64 0, .int .i64 2] by rw [heq]; rfl)
            clear heq hat hy hx hx256
            go_wp2_with fail
            refine bodyPost_ret (v := countV (rNum bs 6 0 0 ⟨p, 0⟩)) (by rw [HT.out]; simp [results, Tryd.results68, go_sem]) rfl ⟨rfl, rfl⟩
          · rw [if_neg (by omega), if_pos hy128] at heq
            have hyb : ((y : Int) == 0) = false := by rw [beq_eq_false_iff_ne]; omega
            have HT := Lib.hid (show countV (rNum bs 6 0 0 ⟨p, 0⟩) = .tuple #[.int .i64 ((m : Int) + (y : Int) % 128 * 128), .int .i64 ((p : Int) + 1 + 1), .int .i64 0] by rw [heq]; unfold countV; simp only [if_true]; rw [show ((m + y * 128 ^ 1 : Nat) : Int) = (m : Int) + (y : Int) % 128 * 128 by rw [show (128 : Nat) ^ 1 = 128 from rfl]; omega, show ((p + 1 + 1 : Nat) : Int) = (p : Int) + 1 + 1 by omega])
            clear heq hat hy hx
            go_wp2_with fail
            refine bodyPost_ret (v := countV (rNum bs 6 0 0 ⟨p, 0⟩)) (by rw [HT.out]; simp [results, Tryd.results68, go_sem]) rfl ⟨rfl, rfl⟩
        · rw [if_neg (by omega), if_neg hy128] at heq
          have Hst := Lib.hid (show CountAt bs p 2 (m + y % 128 * 128 ^ 1) from .inl ⟨by omega, by rw [show (128 : Nat) ^ 1 = 128 from rfl, show (128 : Nat) ^ 2 = 16384 from rfl]; omega, heq⟩)
          have Hv := Lib.hid (show (m : Int) + (y : Int) % 128 * 128 = ((m + y % 128 * 128 ^ 1 : Nat) : Int) by rw [show (128 : Nat) ^ 1 = 128 from rfl]; omega)
          clear heq hat hy hx
          go_wp2_with fail
          go_round
          case rel => exact ⟨2, m + y % 128 * 128 ^ 1, by omega, by go_num, by first | exact congrArg (fun z => Value.int .i64 z) Hv.out | (have := Hv.out; simp at this ⊢; done) | (have := Hv.out; simp at this ⊢; omega), rfl, Hst.out⟩
          case measure => simp [intOf]
      · have h1 : rOne bs ⟨p + 1, 0⟩ = (0, ⟨p + 1, 3⟩) := by unfold rOne; rw [if_neg (by simp), if_pos (by simp only; have := Hl.out; omega)]
        rw [h1] at heq
        simp only at heq
        rw [if_pos (by decide)] at heq
        have HT := Lib.hid (show countV (rNum bs 6 0 0 ⟨p, 0⟩) = .tuple #[.int .i64 0, .int .i64 0, .int .i64 3] by rw [heq]; rfl)
        have z1 : decide ((n : Int) ≤ (p : Int) + 1) = true := by simp; omega
        clear heq hat h1
        go_wp2_with fail
        refine bodyPost_ret (v := countV (rNum bs 6 0 0 ⟨p, 0⟩)) (by rw [HT.out]; simp [results, Tryd.results68, go_sem]) rfl ⟨rfl, rfl⟩
    · obtain ⟨_, hm, heq⟩ : 2 ≤ 5 ∧ m < 128 ^ 2 ∧ rNum bs 6 0 0 ⟨p, 0⟩ = rNum bs (6 - 2) 2 m ⟨p + 2, 0⟩ := by
        rcases hat with h | ⟨h, _⟩
        · exact h
        · omega
      rw [show (128 : Nat) ^ 2 = 16384 from rfl] at hm ⊢
      rw [show 6 - 2 = 3 + 1 from rfl, rNum_step bs 3 2 m ⟨p + 2, 0⟩] at heq
      by_cases hlt : p + 2 < n
      · obtain ⟨b, o, x, rfl, hb, hob, hx, hc⟩ := Hs.out.byte hlt
        rw [rOne_byte hx] at heq
        simp only at heq
        rw [if_neg (by simp)] at heq
        have hx256 := x.toNat_lt
        obtain ⟨y, hy⟩ : ∃ y, y = x.toNat := ⟨_, rfl⟩
        rw [← hy] at heq hc hx256
        have i0 : (0 : Int) ≤ (p : Int) + 2 := by omega
        have i1 : (p : Int) + 2 < (n : Int) := by omega
        have it : ((p : Int) + 2).toNat = p + 2 := by omega
        by_cases hy128 : y < 128
        · by_cases hy0 : y = 0
          · subst hy0
            rw [if_pos (by omega)] at heq
            have HT := Lib.hid (show countV (rNum bs 6 0 0 ⟨p, 0⟩) = .tuple #[.int .i64 0, .int .i64 0, .int .i64 2] by rw [heq]; rfl)
            clear heq hat hy hx hx256
            go_wp2_with fail
            refine bodyPost_ret (v := countV (rNum bs 6 0 0 ⟨p, 0⟩)) (by rw [HT.out]; simp [results, Tryd.results68, go_sem]) rfl ⟨rfl, rfl⟩
          · rw [if_neg (by omega), if_pos hy128] at heq
            have hyb : ((y : Int) == 0) = false := by rw [beq_eq_false_iff_ne]; omega
            have HT := Lib.hid (show countV (rNum bs 6 0 0 ⟨p, 0⟩) = .tuple #[.int .i64 ((m : Int) + (y : Int) % 128 * 16384), .int .i64 ((p : Int) + 2 + 1), .int .i64 0] by rw [heq]; unfold countV; simp only [if_true]; rw [show ((m + y * 128 ^ 2 : Nat) : Int) = (m : Int) + (y : Int) % 128 * 16384 by rw [show (128 : Nat) ^ 2 = 16384 from rfl]; omega, show ((p + 2 + 1 : Nat) : Int) = (p : Int) + 2 + 1 by omega])
            clear heq hat hy hx
            go_wp2_with fail
            refine bodyPost_ret (v := countV (rNum bs 6 0 0 ⟨p, 0⟩)) (by rw [HT.out]; simp [results, Tryd.results68, go_sem]) rfl ⟨rfl, rfl⟩
        · rw [if_neg (by omega), if_neg hy128] at heq
          have Hst := Lib.hid (show CountAt bs p 3 (m + y % 128 * 128 ^ 2) from .inl ⟨by omega, by rw [show (128 : Nat) ^ 2 = 16384 from rfl, show (128 : Nat) ^ 3 = 2097152 from rfl]; omega, heq⟩)
          have Hv := Lib.hid (show (m : Int) + (y : Int) % 128 * 16384 = ((m + y % 128 * 128 ^ 2 : Nat) : Int) by rw [show (128 : Nat) ^ 2 = 16384 from rfl]; omega)
          clear heq hat hy hx
          go_wp2_with fail
          go_round
          case rel => exact ⟨3, m + y % 128 * 128 ^ 2, by omega, by go_num, by first | exact congrArg (fun z => Value.int .i64 z) Hv.out | (have := Hv.out; simp at this ⊢; done) | (have := Hv.out; simp at this ⊢; omega), rfl, Hst.out⟩
          case measure => simp [intOf]
      · have h1 : rOne bs ⟨p + 2, 0⟩ = (0, ⟨p + 2, 3⟩) := by unfold rOne; rw [if_neg (by simp), if_pos (by simp only; have := Hl.out; omega)]
        rw [h1] at heq
        simp only at heq
        rw [if_pos (by decide)] at heq
        have HT := Lib.hid (show countV (rNum bs 6 0 0 ⟨p, 0⟩) = .tuple #[.int .i64 0, .int .i64 0, .int .i64 3] by rw [heq]; rfl)
        have z1 : decide ((n : Int) ≤ (p : Int) + 2) = true := by simp; omega
        clear heq hat h1
        go_wp2_with fail
        refine bodyPost_ret (v := countV (rNum bs 6 0 0 ⟨p, 0⟩)) (by rw [HT.out]; simp [results, Tryd.results68, go_sem]) rfl ⟨rfl, rfl⟩
    · obtain ⟨_, hm, heq⟩ : 3 ≤ 5 ∧ m < 128 ^ 3 ∧ rNum bs 6 0 0 ⟨p, 0⟩ = rNum bs (6 - 3) 3 m ⟨p + 3, 0⟩ := by
        rcases hat with h | ⟨h, _⟩
        · exact h
        · omega
      rw [show (128 : Nat) ^ 3 = 2097152 from rfl] at hm ⊢
      rw [show 6 - 3 = 2 + 1 from rfl, rNum_step bs 2 3 m ⟨p + 3, 0⟩] at heq
      by_cases hlt : p + 3 < n
      · obtain ⟨b, o, x, rfl, hb, hob, hx, hc⟩ := Hs.out.byte hlt
        rw [rOne_byte hx] at heq
        simp only at heq
        rw [if_neg (by simp)] at heq
        have hx256 := x.toNat_lt
        obtain ⟨y, hy⟩ : ∃ y, y = x.toNat := ⟨_, rfl⟩
        rw [← hy] at heq hc hx256
        have i0 : (0 : Int) ≤ (p : Int) + 3 := by omega
        have i1 : (p : Int) + 3 < (n : Int) := by omega
        have it : ((p : Int) + 3).toNat = p + 3 := by omega
        by_cases hy128 : y < 128
        · by_cases hy0 : y = 0
          · subst hy0
            rw [if_pos (by omega)] at heq
            have HT := Lib.hid (show countV (rNum bs 6 0 0 ⟨p, 0⟩) = .tuple #[.int .i64 0, .int .i64 0, .int .i64 2] by rw [heq]; rfl)
            clear heq hat hy hx hx256
            go_wp2_with fail
            refine bodyPost_ret (v := countV (rNum bs 6 0 0 ⟨p, 0⟩)) (by rw [HT.out]; simp [results, Tryd.results68, go_sem]) rfl ⟨rfl, rfl⟩
          · rw [if_neg (by omega), if_pos hy128] at heq
            have hyb : ((y : Int) == 0) = false := by rw [beq_eq_false_iff_ne]; omega
            have HT := Lib.hid (show countV (rNum bs 6 0 0 ⟨p, 0⟩) = .tuple #[.int .i64 ((m : Int) + (y : Int) % 128 * 2097152), .int .i64 ((p : Int) + 3 + 1), .int .i64 0] by rw [heq]; unfold countV; simp only [if_true]; rw [show ((m + y * 128 ^ 3 : Nat) : Int) = (m : Int) + (y : Int) % 128 * 2097152 by rw [show (128 : Nat) ^ 3 = 2097152 from rfl]; omega, show ((p + 3 + 1 : Nat) : Int) = (p : Int) + 3 + 1 by omega])
            clear heq hat hy hx
            go_wp2_with fail
            refine bodyPost_ret (v := countV (rNum bs 6 0 0 ⟨p, 0⟩)) (by rw [HT.out]; simp [results, Tryd.results68, go_sem]) rfl ⟨rfl, rfl⟩
        · rw [if_neg (by omega), if_neg hy128] at heq
          have Hst := Lib.hid (show CountAt bs p 4 (m + y % 128 * 128 ^ 3) from .inl ⟨by omega, by rw [show (128 : Nat) ^ 3 = 2097152 from rfl, show (128 : Nat) ^ 4 = 268435456 from rfl]; omega, heq⟩)
          have Hv := Lib.hid (show (m : Int) + (y : Int) % 128 * 2097152 = ((m + y % 128 * 128 ^ 3 : Nat) : Int) by rw [show (128 : Nat) ^ 3 = 2097152 from rfl]; omega)
          clear heq hat hy hx
          go_wp2_with fail
          go_round
          case rel => exact ⟨4, m + y % 128 * 128 ^ 3, by omega, by go_num, by first | exact congrArg (fun z => Value.int .i64 z) Hv.out | (have := Hv.out; simp at this ⊢; done) | (have := Hv.out; simp at this ⊢; omega), rfl, Hst.out⟩
          case measure => simp [intOf]
      · have h1 : rOne bs ⟨p + 3, 0⟩ = (0, ⟨p + 3, 3⟩) := by unfold rOne; rw [if_neg (by simp), if_pos (by simp only; have := Hl.out; omega)]
        rw [h1] at heq
        simp only at heq
        rw [if_pos (by decide)] at heq
        have HT := Lib.hid (show countV (rNum bs 6 0 0 ⟨p, 0⟩) = .tuple #[.int .i64 0, .int .i64 0, .int .i64 3] by rw [heq]; rfl)
        have z1 : decide ((n : Int) ≤ (p : Int) + 3) = true := by simp; omega
        clear heq hat h1
        go_wp2_with fail
        refine bodyPost_ret (v := countV (rNum bs 6 0 0 ⟨p, 0⟩)) (by rw [HT.out]; simp [results, Tryd.results68, go_sem]) rfl ⟨rfl, rfl⟩
    · obtain ⟨_, hm, heq⟩ : 4 ≤ 5 ∧ m < 128 ^ 4 ∧ rNum bs 6 0 0 ⟨p, 0⟩ = rNum bs (6 - 4) 4 m ⟨p + 4, 0⟩ := by
        rcases hat with h | ⟨h, _⟩
        · exact h
        · omega
      rw [show (128 : Nat) ^ 4 = 268435456 from rfl] at hm ⊢
      rw [show 6 - 4 = 1 + 1 from rfl, rNum_step bs 1 4 m ⟨p + 4, 0⟩] at heq
      by_cases hlt : p + 4 < n
      · obtain ⟨b, o, x, rfl, hb, hob, hx, hc⟩ := Hs.out.byte hlt
        rw [rOne_byte hx] at heq
        simp only at heq
        rw [if_neg (by simp)] at heq
        have hx256 := x.toNat_lt
        obtain ⟨y, hy⟩ : ∃ y, y = x.toNat := ⟨_, rfl⟩
        rw [← hy] at heq hc hx256
        have i0 : (0 : Int) ≤ (p : Int) + 4 := by omega
        have i1 : (p : Int) + 4 < (n : Int) := by omega
        have it : ((p : Int) + 4).toNat = p + 4 := by omega
        by_cases hy128 : y < 128
        · by_cases hy0 : y = 0
          · subst hy0
            rw [if_pos (by omega)] at heq
            have HT := Lib.hid (show countV (rNum bs 6 0 0 ⟨p, 0⟩) = .tuple #[.int .i64 0, .int .i64 0, .int .i64 2] by rw [heq]; rfl)
            clear heq hat hy hx hx256
            go_wp2_with fail
            refine bodyPost_ret (v := countV (rNum bs 6 0 0 ⟨p, 0⟩)) (by rw [HT.out]; simp [results, Tryd.results68, go_sem]) rfl ⟨rfl, rfl⟩
          · rw [if_neg (by omega), if_pos hy128] at heq
            have hyb : ((y : Int) == 0) = false := by rw [beq_eq_false_iff_ne]; omega
            have HT := Lib.hid (show countV (rNum bs 6 0 0 ⟨p, 0⟩) = .tuple #[.int .i64 ((m : Int) + (y : Int) % 128 * 268435456), .int .i64 ((p : Int) + 4 + 1), .int .i64 0] by rw [heq]; unfold countV; simp only [if_true]; rw [show ((m + y * 128 ^ 4 : Nat) : Int) = (m : Int) + (y : Int) % 128 * 268435456 by rw [show (128 : Nat) ^ 4 = 268435456 from rfl]; omega, show ((p + 4 + 1 : Nat) : Int) = (p : Int) + 4 + 1 by omega])
            clear heq hat hy hx
            go_wp2_with fail
            refine bodyPost_ret (v := countV (rNum bs 6 0 0 ⟨p, 0⟩)) (by rw [HT.out]; simp [results, Tryd.results68, go_sem]) rfl ⟨rfl, rfl⟩
        · rw [if_neg (by omega), if_neg hy128] at heq
          have Hst := Lib.hid (show CountAt bs p 5 (m + y % 128 * 128 ^ 4) from .inl ⟨by omega, by rw [show (128 : Nat) ^ 4 = 268435456 from rfl, show (128 : Nat) ^ 5 = 34359738368 from rfl]; omega, heq⟩)
          have Hv := Lib.hid (show (m : Int) + (y : Int) % 128 * 268435456 = ((m + y % 128 * 128 ^ 4 : Nat) : Int) by rw [show (128 : Nat) ^ 4 = 268435456 from rfl]; omega)
          clear heq hat hy hx
          go_wp2_with fail
          go_round
          case rel => exact ⟨5, m + y % 128 * 128 ^ 4, by omega, by go_num, by first | exact congrArg (fun z => Value.int .i64 z) Hv.out | (have := Hv.out; simp at this ⊢; done) | (have := Hv.out; simp at this ⊢; omega), rfl, Hst.out⟩
          case measure => simp [intOf]
      · have h1 : rOne bs ⟨p + 4, 0⟩ = (0, ⟨p + 4, 3⟩) := by unfold rOne; rw [if_neg (by simp), if_pos (by simp only; have := Hl.out; omega)]
        rw [h1] at heq
        simp only at heq
        rw [if_pos (by decide)] at heq
        have HT := Lib.hid (show countV (rNum bs 6 0 0 ⟨p, 0⟩) = .tuple #[.int .i64 0, .int .i64 0, .int .i64 3] by rw [heq]; rfl)
        have z1 : decide ((n : Int) ≤ (p : Int) + 4) = true := by simp; omega
        clear heq hat h1
        go_wp2_with fail
        refine bodyPost_ret (v := countV (rNum bs 6 0 0 ⟨p, 0⟩)) (by rw [HT.out]; simp [results, Tryd.results68, go_sem]) rfl ⟨rfl, rfl⟩
    · obtain ⟨_, hm, heq⟩ : 5 ≤ 5 ∧ m < 128 ^ 5 ∧ rNum bs 6 0 0 ⟨p, 0⟩ = rNum bs (6 - 5) 5 m ⟨p + 5, 0⟩ := by
        rcases hat with h | ⟨h, _⟩
        · exact h
        · omega
      rw [show (128 : Nat) ^ 5 = 34359738368 from rfl] at hm ⊢
      rw [show 6 - 5 = 0 + 1 from rfl, rNum_step bs 0 5 m ⟨p + 5, 0⟩] at heq
      by_cases hlt : p + 5 < n
      · obtain ⟨b, o, x, rfl, hb, hob, hx, hc⟩ := Hs.out.byte hlt
        rw [rOne_byte hx] at heq
        simp only at heq
        rw [if_neg (by simp)] at heq
        have hx256 := x.toNat_lt
        obtain ⟨y, hy⟩ : ∃ y, y = x.toNat := ⟨_, rfl⟩
        rw [← hy] at heq hc hx256
        have i0 : (0 : Int) ≤ (p : Int) + 5 := by omega
        have i1 : (p : Int) + 5 < (n : Int) := by omega
        have it : ((p : Int) + 5).toNat = p + 5 := by omega
        by_cases hy128 : y < 128
        · by_cases hy0 : y = 0
          · subst hy0
            rw [if_pos (by omega)] at heq
            have HT := Lib.hid (show countV (rNum bs 6 0 0 ⟨p, 0⟩) = .tuple #[.int .i64 0, .int .i64 0, .int .i64 2] by rw [heq]; rfl)
            clear heq hat hy hx hx256
            go_wp2_with fail
            refine bodyPost_ret (v := countV (rNum bs 6 0 0 ⟨p, 0⟩)) (by rw [HT.out]; simp [results, Tryd.results68, go_sem]) rfl ⟨rfl, rfl⟩
          · rw [if_neg (by omega), if_pos hy128] at heq
            have hyb : ((y : Int) == 0) = false := by rw [beq_eq_false_iff_ne]; omega
            have HT := Lib.hid (show countV (rNum bs 6 0 0 ⟨p, 0⟩) = .tuple #[.int .i64 ((m : Int) + (y : Int) % 128 * 34359738368), .int .i64 ((p : Int) + 5 + 1), .int .i64 0] by rw [heq]; unfold countV; simp only [if_true]; rw [show ((m + y * 128 ^ 5 : Nat) : Int) = (m : Int) + (y : Int) % 128 * 34359738368 by rw [show (128 : Nat) ^ 5 = 34359738368 from rfl]; omega, show ((p + 5 + 1 : Nat) : Int) = (p : Int) + 5 + 1 by omega])
            clear heq hat hy hx
            go_wp2_with fail
            refine bodyPost_ret (v := countV (rNum bs 6 0 0 ⟨p, 0⟩)) (by rw [HT.out]; simp [results, Tryd.results68, go_sem]) rfl ⟨rfl, rfl⟩
        · rw [if_pos (.inl ⟨by omega, by simp⟩)] at heq
          have Hst := Lib.hid (show CountAt bs p 6 (m + y % 128 * 128 ^ 5) from .inr ⟨rfl, by rw [show (128 : Nat) ^ 5 = 34359738368 from rfl, show (128 : Nat) ^ 6 = 4398046511104 from rfl]; omega, by rw [heq]⟩)
          have Hv := Lib.hid (show (m : Int) + (y : Int) % 128 * 34359738368 = ((m + y % 128 * 128 ^ 5 : Nat) : Int) by rw [show (128 : Nat) ^ 5 = 34359738368 from rfl]; omega)
          clear heq hat hy hx
          go_wp2_with fail
          go_round
          case rel => exact ⟨6, m + y % 128 * 128 ^ 5, by omega, by go_num, by first | exact congrArg (fun z => Value.int .i64 z) Hv.out | (have := Hv.out; simp at this ⊢; done) | (have := Hv.out; simp at this ⊢; omega), rfl, Hst.out⟩
          case measure => simp [intOf]
      · have h1 : rOne bs ⟨p + 5, 0⟩ = (0, ⟨p + 5, 3⟩) := by unfold rOne; rw [if_neg (by simp), if_pos (by simp only; have := Hl.out; omega)]
        rw [h1] at heq
        simp only at heq
        rw [if_pos (by decide)] at heq
        have HT := Lib.hid (show countV (rNum bs 6 0 0 ⟨p, 0⟩) = .tuple #[.int .i64 0, .int .i64 0, .int .i64 3] by rw [heq]; rfl)
        have z1 : decide ((n : Int) ≤ (p : Int) + 5) = true := by simp; omega
        clear heq hat h1
        go_wp2_with fail
        refine bodyPost_ret (v := countV (rNum bs 6 0 0 ⟨p, 0⟩)) (by rw [HT.out]; simp [results, Tryd.results68, go_sem]) rfl ⟨rfl, rfl⟩
    · obtain ⟨_, hm, he2⟩ : 6 = 6 ∧ m < 128 ^ 6 ∧ (rNum bs 6 0 0 ⟨p, 0⟩).2.err = 2 := by
        rcases hat with ⟨h, _⟩ | h
        · omega
        · exact h
      have HT := Lib.hid (show countV (rNum bs 6 0 0 ⟨p, 0⟩) = .tuple #[.int .i64 0, .int .i64 0, .int .i64 2] by unfold countV; rw [he2]; rfl)
      rw [show (128 : Nat) ^ 6 = 4398046511104 from rfl]
      clear hat he2
      go_wp2_with fail
      refine bodyPost_ret (v := countV (rNum bs 6 0 0 ⟨p, 0⟩)) (by rw [HT.out]; simp [results, Tryd.results68, go_sem]) rfl ⟨rfl, rfl⟩
end Go.Proofs.YtihdeidaekheoaaDoor
