/-
  What is proved here: what is decoded is encoded as it was. No program is in sight. No condition but those told.
-/
import Derived.Test.YtihdeidaekheoaaDoorEvCut
namespace Go.Proofs.YtihdeidaekheoaaDoor
open Go Go.RowKit

theorem take_one_more {bs : List UInt8} {p : Nat} (h : p < bs.length) : bs.take (p + 1) = bs.take p ++ [bs.getD p 0] := by
  rw [List.take_add_one, List.getD_eq_getElem?_getD]
  rw [List.getElem?_eq_getElem h]
  rfl
theorem u8_back (x : UInt8) : UInt8.ofNat x.toNat = x := by
  apply UInt8.toNat_inj.1
  rw [UInt8.toNat_ofNat']
  have := x.toNat_lt
  omega
theorem rText_back {bs : List UInt8} {r : Rd} (h0 : r.err = 0) (h : (rText bs r).2.err = 0) : bs.take (rText bs r).2.pos = bs.take r.pos ++ wordL (bts (rText bs r).1) := by
  by_cases h1 : (rOne bs r).2.err = 0
  · obtain ⟨hlt, he⟩ := rOne_ok h0 h1
    unfold rText at h ⊢
    rw [he] at h ⊢
    simp only at h ⊢
    rw [if_neg (by simp)] at h ⊢
    obtain ⟨x, hx⟩ : ∃ x, x = bs.getD r.pos 0 := ⟨_, rfl⟩
    rw [← hx] at h ⊢
    by_cases hs : bs.length - (r.pos + 1) < x.toNat
    · rw [if_pos hs] at h; simp at h
    · rw [if_neg hs]
      simp only
      have hsz : (bts ((bs.drop (r.pos + 1)).take x.toNat)).size = x.toNat := by rw [bts_size, List.length_take, List.length_drop]; omega
      unfold wordL
      rw [hsz, u8_back, List.take_add, take_one_more hlt, ← hx]
      simp [bts]
  · exfalso
    unfold rText at h
    simp only at h
    rw [if_pos h1] at h
    exact h1 h
theorem rNum_back (bs : List UInt8) : ∀ (fuel i m : Nat) (r : Rd), r.err = 0 → (rNum bs fuel i m r).2.err = 0 → ∃ N : Nat, (0 < i → 1 ≤ N) ∧ (rNum bs fuel i m r).1 = m + N * 128 ^ i ∧ bs.take (rNum bs fuel i m r).2.pos = bs.take r.pos ++ numL N
  | 0, _, _, _, _, h => by simp [rNum] at h
  | fuel + 1, i, m, r, h0, h => by
    by_cases h1 : (rOne bs r).2.err = 0
    · obtain ⟨hlt, he⟩ := rOne_ok h0 h1
      have ht := take_one_more hlt
      rw [rNum_step] at h ⊢
      rw [he] at h ⊢
      simp only at h ⊢
      rw [if_neg (by simp)] at h ⊢
      obtain ⟨x, hx⟩ : ∃ x, x = bs.getD r.pos 0 := ⟨_, rfl⟩
      rw [← hx] at h ht ⊢
      have hx256 := x.toNat_lt
      by_cases hb : (128 ≤ x.toNat ∧ i = 5) ∨ (x.toNat = 0 ∧ 0 < i)
      · rw [if_pos hb] at h; simp at h
      · rw [if_neg hb] at h ⊢
        by_cases hlt : x.toNat < 128
        · rw [if_pos hlt] at h ⊢
          refine ⟨x.toNat, fun hi => ?_, rfl, ?_⟩
          · have : x.toNat ≠ 0 := fun h0 => hb (.inr ⟨h0, hi⟩)
            omega
          · simp only
            rw [ht, numL_lt hlt, u8_back]
        · rw [if_neg hlt] at h ⊢
          obtain ⟨N, hN, hv, hp⟩ := rNum_back bs fuel (i + 1) (m + x.toNat % 128 * 128 ^ i) ⟨r.pos + 1, 0⟩ rfl h
          have h1N := hN (by omega)
          refine ⟨x.toNat % 128 + 128 * N, fun _ => by omega, ?_, ?_⟩
          · rw [hv, Nat.add_assoc, Nat.pow_succ, Nat.add_mul]
            congr 2
            rw [Nat.mul_comm (128 ^ i) 128, ← Nat.mul_assoc, Nat.mul_comm N 128]
          · have hq := numL_ge (show ¬ (x.toNat % 128 + 128 * N) < 128 by omega)
            rw [hp, hq]
            simp only
            rw [ht, show (x.toNat % 128 + 128 * N) / 128 = N by omega, show (x.toNat % 128 + 128 * N) % 128 + 128 = x.toNat by omega, u8_back]
            simp
    · exfalso
      rw [rNum_step, if_pos h1] at h
      exact h1 h
theorem rNum_back6 {bs : List UInt8} {r : Rd} (h0 : r.err = 0) (h : (rNum bs 6 0 0 r).2.err = 0) : bs.take (rNum bs 6 0 0 r).2.pos = bs.take r.pos ++ numL (rNum bs 6 0 0 r).1 := by
  obtain ⟨N, _, hv, hp⟩ := rNum_back bs 6 0 0 r h0 h
  rw [hp, hv]
  simp
/-- What is decoded is encoded as it was. -/
theorem dec_back {bs : List UInt8} (e7 : (dec7 bs).r.err = 0) : bs.take (dec7 bs).r.pos = encE (dec7 bs).e := by
  have e6 : (dec6 bs).r.err = 0 := err_back rText_RF (r := (dec6 bs).r) (bs := bs) e7
  have e5 : (dec5 bs).r.err = 0 := err_back rNum_RF (r := (dec5 bs).r) (bs := bs) e6
  have e4 : (dec4 bs).r.err = 0 := err_back rText_RF (r := (dec4 bs).r) (bs := bs) e5
  have e3 : (dec3 bs).r.err = 0 := err_back rText_RF (r := (dec3 bs).r) (bs := bs) e4
  have e2 : (dec2 bs).r.err = 0 := err_back rNum_RF (r := (dec2 bs).r) (bs := bs) e3
  have e1 : (dec1 bs).r.err = 0 := err_back rNum_RF (r := (dec1 bs).r) (bs := bs) e2
  have e0 : (dec0 bs).r.err = 0 := err_back rText_RF (r := (dec0 bs).r) (bs := bs) e1
  have b7 : bs.take (dec7 bs).r.pos = bs.take (dec6 bs).r.pos ++ wordL (dec7 bs).e.text := rText_back e6 e7
  have b6 : bs.take (dec6 bs).r.pos = bs.take (dec5 bs).r.pos ++ numL (dec7 bs).e.value.toNat := rNum_back6 e5 e6
  have b5 : bs.take (dec5 bs).r.pos = bs.take (dec4 bs).r.pos ++ wordL (dec7 bs).e.item := rText_back e4 e5
  have b4 : bs.take (dec4 bs).r.pos = bs.take (dec3 bs).r.pos ++ wordL (dec7 bs).e.person := rText_back e3 e4
  have b3 : bs.take (dec3 bs).r.pos = bs.take (dec2 bs).r.pos ++ numL (dec7 bs).e.tick.toNat := rNum_back6 e2 e3
  have b2 : bs.take (dec2 bs).r.pos = bs.take (dec1 bs).r.pos ++ numL (dec7 bs).e.num.toNat := rNum_back6 e1 e2
  have b1 : bs.take (dec1 bs).r.pos = bs.take (dec0 bs).r.pos ++ wordL (dec7 bs).e.src := rText_back e0 e1
  have b0 : bs.take (dec0 bs).r.pos = [UInt8.ofNat (dec7 bs).e.kind.toNat] := by
    have e0' : (rOne bs ⟨0, 0⟩).2.err = 0 := e0
    obtain ⟨hlt, he⟩ := rOne_ok (r := ⟨0, 0⟩) rfl e0'
    show bs.take (rOne bs ⟨0, 0⟩).2.pos = [UInt8.ofNat (((rOne bs ⟨0, 0⟩).1.toNat : Int)).toNat]
    rw [Int.toNat_natCast, u8_back, he]
    have := take_one_more hlt
    simpa using this
  unfold encE
  rw [b7, b6, b5, b4, b3, b2, b1, b0]
theorem decE_back {bs : List UInt8} (h : (decE bs).2.2 = 0) : ∃ e : Ev, ∃ n : Nat, decE bs = (e, (n : Int), 0) ∧ mayE e = true ∧ n ≤ bs.length ∧ encE e = bs.take n ∧ n = (encE e).length := by
  unfold decE at h ⊢
  by_cases he : (dec7 bs).r.err = 0
  · rw [if_neg (by simp [he])] at h ⊢
    cases hm : mayE (dec7 bs).e
    · rw [hm] at h; simp at h
    · rw [hm] at h
      have hb := dec_back he
      have h1 : (dec7 bs).r.pos ≤ bs.length := by
        have q0 := rOne_le (bs := bs) (r := ⟨0, 0⟩) (Nat.zero_le _)
        exact rText_le (rNum_le 6 0 0 (rText_le (rText_le (rNum_le 6 0 0 (rNum_le 6 0 0 (rText_le q0))))))
      refine ⟨(dec7 bs).e, (dec7 bs).r.pos, by simp, hm, h1, hb.symm, ?_⟩
      rw [← hb, List.length_take]
      omega
  · rw [if_pos he] at h
    exact absurd h he
end Go.Proofs.YtihdeidaekheoaaDoor
