/-
  What is proved here: what is encoded is decoded; cut anywhere it is torn. No program is in sight. No condition but those told.
-/
import Derived.Test.YtihdeidaekheoaaDoorEvDec
namespace Go.Proofs.YtihdeidaekheoaaDoor
open Go Go.RowKit

theorem rOne_at {bs pre rest : List UInt8} {x : UInt8} (h : bs = pre ++ x :: rest) : rOne bs ⟨pre.length, 0⟩ = (x, ⟨pre.length + 1, 0⟩) := by
  subst h
  unfold rOne
  rw [if_neg (by simp), if_neg (by simp)]
  simp [List.getD_eq_getElem?_getD]
theorem rText_at {bs pre rest : List UInt8} {s : ByteArray} (h : bs = pre ++ (wordL s ++ rest)) (hs : s.size ≤ 255) : rText bs ⟨pre.length, 0⟩ = (s.data.toList, ⟨pre.length + (wordL s).length, 0⟩) := by
  have h1 := rOne_at (bs := bs) (pre := pre) (x := UInt8.ofNat s.size) (rest := s.data.toList ++ rest) (by rw [h]; rfl)
  have hz : (UInt8.ofNat s.size).toNat = s.size := by rw [UInt8.toNat_ofNat']; omega
  have hl : s.data.toList.length = s.size := by simp
  unfold rText
  rw [h1]
  simp only [hz]
  have hlen : bs.length = pre.length + (1 + s.size + rest.length) := by rw [h]; simp [wordL]; omega
  rw [if_neg (by simp), if_neg (by omega)]
  have hd : bs.drop (pre.length + 1) = s.data.toList ++ rest := by rw [h]; simp [wordL]
  rw [hd, ← hl, List.take_left, wordL_len, ← hl]
  congr 2
  omega
theorem rNum_at {bs : List UInt8} : ∀ (fuel i m N : Nat) (pre rest : List UInt8), bs = pre ++ (numL N ++ rest) → N < 128 ^ fuel → fuel + i = 6 → (0 < i → 1 ≤ N) → rNum bs fuel i m ⟨pre.length, 0⟩ = (m + N * 128 ^ i, ⟨pre.length + (numL N).length, 0⟩)
  | 0, i, m, N, pre, rest, _, hN, hi, h1 => by
    have := h1 (by omega)
    simp at hN; omega
  | fuel + 1, i, m, N, pre, rest, hb, hN, hi, h1 => by
    by_cases hlt : N < 128
    · rw [numL_lt hlt] at hb ⊢
      have hx := rOne_at (bs := bs) (pre := pre) (x := UInt8.ofNat N) (rest := rest) hb
      have hz : (UInt8.ofNat N).toNat = N := by rw [UInt8.toNat_ofNat']; omega
      unfold rNum
      rw [hx]
      simp only [hz]
      have hno : ¬ ((128 ≤ N ∧ i = 5) ∨ (N = 0 ∧ 0 < i)) := by
        rintro (⟨h, _⟩ | ⟨h, hi⟩)
        · omega
        · have := h1 hi; omega
      rw [if_neg (by simp), if_neg hno, if_pos hlt]
      rfl
    · rw [numL_ge hlt] at hb ⊢
      have hx := rOne_at (bs := bs) (pre := pre) (x := UInt8.ofNat (N % 128 + 128)) (rest := numL (N / 128) ++ rest) hb
      have hz : (UInt8.ofNat (N % 128 + 128)).toNat = N % 128 + 128 := by rw [UInt8.toNat_ofNat']; omega
      unfold rNum
      rw [hx]
      simp only [hz]
      have hi5 : i ≠ 5 := fun e => by
        have : fuel = 0 := by omega
        subst this; simp at hN; omega
      have hno : ¬ ((128 ≤ N % 128 + 128 ∧ i = 5) ∨ (N % 128 + 128 = 0 ∧ 0 < i)) := by
        rintro (⟨_, h⟩ | ⟨h, _⟩)
        · exact hi5 h
        · omega
      rw [if_neg (by simp), if_neg hno, if_neg (by omega)]
      have hdiv : N / 128 < 128 ^ fuel := Nat.div_lt_of_lt_mul (by rw [Nat.pow_succ, Nat.mul_comm] at hN; exact hN)
      have ih := rNum_at (bs := bs) fuel (i + 1) (m + (N % 128 + 128) % 128 * 128 ^ i) (N / 128) (pre ++ [UInt8.ofNat (N % 128 + 128)]) rest (by rw [hb]; simp) hdiv (by omega) (fun _ => by omega)
      rw [List.length_append] at ih
      simp only [List.length_cons, List.length_nil, Nat.zero_add] at ih
      rw [ih]
      have e1 : (N % 128 + 128) % 128 = N % 128 := by omega
      rw [e1, Nat.pow_succ, ← Nat.mul_assoc, Nat.mul_comm _ 128, ← Nat.mul_assoc, Nat.add_assoc, ← Nat.add_mul]
      have e2 : N % 128 + 128 * (N / 128) = N := Nat.mod_add_div N 128
      simp only [List.length_cons]
      rw [e2]
      congr 2
      omega
theorem rNum_6 {bs pre rest : List UInt8} {z : Int} (h : bs = pre ++ (numL z.toNat ++ rest)) (h0 : 0 ≤ z) (h1 : z ≤ 1099511627776) : rNum bs 6 0 0 ⟨pre.length, 0⟩ = (z.toNat, ⟨pre.length + (numL z.toNat).length, 0⟩) := by
  have := rNum_at 6 0 0 z.toNat pre rest h (by omega) rfl (fun h => absurd h (by omega))
  rw [this]; simp

/-- What is encoded is decoded, whatever stands behind. -/
theorem dec_enc {e : Ev} (h : mayE e = true) (tail : List UInt8) : dec7 (encE e ++ tail) = ⟨UInt8.ofNat e.kind.toNat, e, ⟨(encE e).length, 0⟩⟩ := by
  have hF := mayF h
  have z1 := (nameB_size hF.src).2
  have z2 := hF.psize
  have z3 := hF.isize
  have z4 := hF.tsize
  have k0 := hF.kind0
  have k1 := hF.kind1
  obtain ⟨bs, hbs⟩ : ∃ bs, bs = encE e ++ tail := ⟨_, rfl⟩
  rw [← hbs]
  unfold encE at hbs
  obtain ⟨p0, hp0⟩ : ∃ p, p = [UInt8.ofNat e.kind.toNat] := ⟨_, rfl⟩
  obtain ⟨p1, hp1⟩ : ∃ p, p = p0 ++ wordL e.src := ⟨_, rfl⟩
  obtain ⟨p2, hp2⟩ : ∃ p, p = p1 ++ numL e.num.toNat := ⟨_, rfl⟩
  obtain ⟨p3, hp3⟩ : ∃ p, p = p2 ++ numL e.tick.toNat := ⟨_, rfl⟩
  obtain ⟨p4, hp4⟩ : ∃ p, p = p3 ++ wordL e.person := ⟨_, rfl⟩
  obtain ⟨p5, hp5⟩ : ∃ p, p = p4 ++ wordL e.item := ⟨_, rfl⟩
  obtain ⟨p6, hp6⟩ : ∃ p, p = p5 ++ numL e.value.toNat := ⟨_, rfl⟩
  obtain ⟨p7, hp7⟩ : ∃ p, p = p6 ++ wordL e.text := ⟨_, rfl⟩
  have hE : encE e = p7 := by unfold encE; rw [hp7, hp6, hp5, hp4, hp3, hp2, hp1, hp0]
  rw [hE]
  rw [← hp0, ← hp1, ← hp2, ← hp3, ← hp4, ← hp5, ← hp6, ← hp7] at hbs
  have b6 : bs = p6 ++ (wordL e.text ++ tail) := by rw [hbs, hp7, List.append_assoc]
  have b5 : bs = p5 ++ (numL e.value.toNat ++ (wordL e.text ++ tail)) := by rw [b6, hp6, List.append_assoc]
  have b4 : bs = p4 ++ (wordL e.item ++ (numL e.value.toNat ++ (wordL e.text ++ tail))) := by rw [b5, hp5, List.append_assoc]
  have b3 : bs = p3 ++ (wordL e.person ++ (wordL e.item ++ (numL e.value.toNat ++ (wordL e.text ++ tail)))) := by rw [b4, hp4, List.append_assoc]
  have b2 : bs = p2 ++ (numL e.tick.toNat ++ (wordL e.person ++ (wordL e.item ++ (numL e.value.toNat ++ (wordL e.text ++ tail))))) := by rw [b3, hp3, List.append_assoc]
  have b1 : bs = p1 ++ (numL e.num.toNat ++ (numL e.tick.toNat ++ (wordL e.person ++ (wordL e.item ++ (numL e.value.toNat ++ (wordL e.text ++ tail)))))) := by rw [b2, hp2, List.append_assoc]
  have b0 : bs = p0 ++ (wordL e.src ++ (numL e.num.toNat ++ (numL e.tick.toNat ++ (wordL e.person ++ (wordL e.item ++ (numL e.value.toNat ++ (wordL e.text ++ tail))))))) := by rw [b1, hp1, List.append_assoc]
  have o0 := rOne_at (bs := bs) (pre := []) (x := UInt8.ofNat e.kind.toNat) (by rw [b0, hp0]; rfl)
  have l0 : ([] : List UInt8).length + 1 = p0.length := by rw [hp0]; rfl
  rw [l0] at o0
  have o1 := rText_at b0 (by omega)
  have o2 := rNum_6 b1 hF.num00 hF.num1
  have o3 := rNum_6 b2 hF.tick0 hF.tick1
  have o4 := rText_at b3 (by omega)
  have o5 := rText_at b4 (by omega)
  have o6 := rNum_6 b5 hF.value0 hF.value11
  have o7 := rText_at b6 (by omega)
  rw [← List.length_append] at o1 o2 o3 o4 o5 o6 o7
  rw [← hp1] at o1; rw [← hp2] at o2; rw [← hp3] at o3; rw [← hp4] at o4; rw [← hp5] at o5; rw [← hp6] at o6; rw [← hp7] at o7
  have hk : ((UInt8.ofNat e.kind.toNat).toNat : Int) = e.kind := by rw [ofNat_toNat (by omega)]; omega
  have d0 : dec0 bs = ⟨UInt8.ofNat e.kind.toNat, ⟨⟨#[]⟩, 0, 0, e.kind, ⟨#[]⟩, ⟨#[]⟩, 0, ⟨#[]⟩⟩, ⟨p0.length, 0⟩⟩ := by
    unfold dec0
    rw [show (⟨0, 0⟩ : Rd) = ⟨([] : List UInt8).length, 0⟩ from rfl, o0]
    simp only [hk]
  have n1 : (e.num.toNat : Int) = e.num := by have := hF.num00; omega
  have n2 : (e.tick.toNat : Int) = e.tick := by have := hF.tick0; omega
  have n3 : (e.value.toNat : Int) = e.value := by have := hF.value0; omega
  unfold dec7 dec6 dec5 dec4 dec3 dec2 dec1
  rw [d0]
  simp only [decS1, decS2, decS3, decS4, decS5, decS6, decS7, o1, o2, o3, o4, o5, o6, o7, n1, n2, n3, bts_of]
theorem decE_enc {e : Ev} (h : mayE e = true) (tail : List UInt8) : decE (encE e ++ tail) = (e, ((encE e).length : Int), 0) := by
  unfold decE
  rw [dec_enc h tail, if_neg (by simp), if_pos h]
/-- Who is unlike has other bytes. -/
theorem enc_inj {a b : Ev} (ha : mayE a = true) (hb : mayE b = true) {s t : List UInt8} (h : encE a ++ s = encE b ++ t) : a = b := by
  have h1 := decE_enc ha s
  rw [h, decE_enc hb t] at h1
  exact (congrArg (·.1) h1).symm
end Go.Proofs.YtihdeidaekheoaaDoor
