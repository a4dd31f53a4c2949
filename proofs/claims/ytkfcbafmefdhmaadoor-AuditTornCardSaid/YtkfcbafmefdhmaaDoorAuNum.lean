/-
  What is proved here: rows of digits and the numbers that they are: as the library's ParseUint and Atoi read them, and as they are written. No program is in sight. No condition.
-/
import Derived.Test.YtkfcbafmefdhmaaDoorAuM
import Derived.Lib.ParseIntBCases
import Derived.Lib.ItoaMem
namespace Go.Proofs.YtkfcbafmefdhmaaDoor
open Go Go.RowKit
/-- A row of digits' number. -/
def digV (l : List UInt8) : Nat := l.foldl (fun a c => a * 10 + (c.toNat - 48)) 0
theorem digits_val (u : Nat) : digV (Lib.decDigits u) = u ∧ ∀ x ∈ Lib.decDigits u, 48 ≤ x.toNat ∧ x.toNat ≤ 57 := by
  induction u using Nat.strongRecOn with
  | ind u ih =>
    rw [Lib.decDigits]
    by_cases h : u < 10
    · rw [dif_pos h]
      have hz : (UInt8.ofNat (48 + u)).toNat = 48 + u := by rw [UInt8.toNat_ofNat']; omega
      exact ⟨by simp only [digV, List.foldl_cons, List.foldl_nil, hz]; omega, fun x hx => by rw [List.mem_singleton.1 hx, hz]; omega⟩
    · rw [dif_neg h]
      obtain ⟨i1, i2⟩ := ih (u / 10) (by omega)
      have hz : (UInt8.ofNat (48 + u % 10)).toNat = 48 + u % 10 := by rw [UInt8.toNat_ofNat']; omega
      refine ⟨?_, fun x hx => ?_⟩
      · unfold digV at i1 ⊢
        rw [List.foldl_append, i1]
        simp only [List.foldl_cons, List.foldl_nil, hz]; omega
      · rcases List.mem_append.1 hx with hx | hx
        · exact i2 x hx
        · rw [List.mem_singleton.1 hx, hz]; omega
theorem dec_first (u : Nat) : ∀ c, (Lib.decDigits u).head? = some c → (Lib.decDigits u).length = 1 ∨ c ≠ 48 := by
  induction u using Nat.strongRecOn with
  | ind u ih =>
    intro c hc
    rw [Lib.decDigits] at hc ⊢
    by_cases h : u < 10
    · rw [dif_pos h]; exact .inl rfl
    · rw [dif_neg h] at hc ⊢
      right
      obtain ⟨x, xs, hx⟩ : ∃ x xs, Lib.decDigits (u / 10) = x :: xs := by
        cases hd : Lib.decDigits (u / 10) with
        | nil => rw [Lib.decDigits] at hd; split at hd <;> simp at hd
        | cons x xs => exact ⟨x, xs, rfl⟩
      rw [hx] at hc
      have hcx : x = c := by simpa using hc
      rcases ih (u / 10) (by omega) x (by rw [hx]; rfl) with h1 | h1
      · by_cases h10 : u / 10 < 10
        · rw [Lib.decDigits, dif_pos h10] at hx
          injection hx with hx _
          rw [← hcx, ← hx]
          intro e
          have := congrArg UInt8.toNat e
          rw [UInt8.toNat_ofNat'] at this
          have h48 : (48 : UInt8).toNat = 48 := rfl
          omega
        · rw [Lib.decDigits, dif_neg h10] at h1
          rw [List.length_append] at h1
          have : (Lib.decDigits (u / 10 / 10)).length ≠ 0 := by
            rw [Lib.decDigits]; split <;> simp
          simp at h1
          exact absurd h1 (by simpa using this)
      · rw [← hcx]; exact h1
theorem dec_pos (u : Nat) : 1 ≤ (Lib.decDigits u).length := by rw [Lib.decDigits]; split <;> simp
def digitB (c : UInt8) : Bool := decide (48 ≤ c.toNat) && decide (c.toNat ≤ 57)
theorem digitB_iff {c : UInt8} : digitB c = true ↔ 48 ≤ c.toNat ∧ c.toNat ≤ 57 := by simp [digitB]
theorem digV_snoc (l : List UInt8) (c : UInt8) : digV (l ++ [c]) = digV l * 10 + (c.toNat - 48) := by
  unfold digV; rw [List.foldl_append]; rfl
theorem fold_ge : ∀ (m : List UInt8) (a : Nat), a ≤ m.foldl (fun a c => a * 10 + (c.toNat - 48)) a
  | [], a => Nat.le_refl a
  | c :: m, a => by
    rw [List.foldl_cons]
    have := fold_ge m (a * 10 + (c.toNat - 48))
    omega
theorem digV_pos {c : UInt8} {l : List UInt8} (h1 : digitB c = true) (h2 : c ≠ 48) : 0 < digV (c :: l) := by
  have h3 := digitB_iff.1 h1
  have h4 : c.toNat ≠ 48 := fun e => h2 (UInt8.toNat_inj.1 e)
  unfold digV
  rw [List.foldl_cons]
  have := fold_ge l (0 * 10 + (c.toNat - 48))
  omega
/-- A row of digits that is written as a number is: no zero ahead. -/
def plainD (l : List UInt8) : Bool := !l.isEmpty && l.all digitB && (decide (l.length = 1) || !(l.head? == some 48))
theorem plainD_dec (u : Nat) : plainD (Lib.decDigits u) = true := by
  have h1 := dec_pos u
  have h2 := (digits_val u).2
  unfold plainD
  rw [Bool.and_eq_true, Bool.and_eq_true]
  refine ⟨⟨?_, ?_⟩, ?_⟩
  · cases h : Lib.decDigits u with
    | nil => rw [h] at h1; simp at h1
    | cons => rfl
  · rw [List.all_eq_true]; exact fun x hx => digitB_iff.2 (h2 x hx)
  · cases h : (Lib.decDigits u).head? with
    | none => rw [List.head?_eq_none_iff] at h; rw [h] at h1; simp at h1
    | some c =>
      rcases dec_first u c h with h3 | h3
      · simp [h3]
      · simp [h3]
theorem dec_snoc {n : Nat} (h : 0 < n) (d : Nat) (hd : d < 10) : Lib.decDigits (n * 10 + d) = Lib.decDigits n ++ [UInt8.ofNat (48 + d)] := by
  rw [Lib.decDigits, dif_neg (by omega), show (n * 10 + d) / 10 = n by omega, show (n * 10 + d) % 10 = d by omega]
theorem digit_back {c : UInt8} (h : digitB c = true) : UInt8.ofNat (48 + (c.toNat - 48)) = c := by
  have h1 := digitB_iff.1 h
  apply UInt8.toNat_inj.1
  rw [UInt8.toNat_ofNat']
  omega
theorem dec_fold : ∀ (m : List UInt8) (a : Nat), 0 < a → m.all digitB = true → Lib.decDigits (m.foldl (fun a c => a * 10 + (c.toNat - 48)) a) = Lib.decDigits a ++ m
  | [], a, _, _ => by simp
  | c :: m, a, h, hm => by
    rw [List.all_cons, Bool.and_eq_true] at hm
    have h1 := digitB_iff.1 hm.1
    rw [List.foldl_cons, dec_fold m _ (by omega) hm.2, dec_snoc h _ (by omega), digit_back hm.1]
    simp
theorem plainD_back {l : List UInt8} (h : plainD l = true) : Lib.decDigits (digV l) = l := by
  unfold plainD at h
  rw [Bool.and_eq_true, Bool.and_eq_true] at h
  obtain ⟨⟨h1, h2⟩, h3⟩ := h
  cases l with
  | nil => cases h1
  | cons c m =>
    rw [List.all_cons, Bool.and_eq_true] at h2
    have hc := digitB_iff.1 h2.1
    by_cases h0 : c = 48
    · subst h0
      have : m = [] := by simpa using h3
      subst this
      simp [digV, Lib.decDigits_one]
    · have h4 : c.toNat ≠ 48 := fun e => h0 (UInt8.toNat_inj.1 e)
      unfold digV
      rw [List.foldl_cons, dec_fold m _ (by omega) h2.2, Lib.decDigits_one (by omega)]
      rw [show 48 + (0 * 10 + (c.toNat - 48)) = 48 + (c.toNat - 48) by omega, digit_back h2.1]; rfl
/-- The number of 64 bits that a row of digits is. -/
def numOf (l : List UInt8) : Option Nat := if plainD l && decide (digV l < 18446744073709551616) then some (digV l) else none
theorem numOf_iff {l : List UInt8} {n : Nat} : numOf l = some n ↔ n < 18446744073709551616 ∧ Lib.decDigits n = l := by
  unfold numOf
  constructor
  · intro h
    split at h
    · rename_i h1
      rw [Bool.and_eq_true, decide_eq_true_eq] at h1
      injection h with h
      subst h
      exact ⟨h1.2, plainD_back h1.1⟩
    · cases h
  · rintro ⟨h1, rfl⟩
    rw [plainD_dec, (digits_val n).1]
    simp [h1]
theorem parse_fold : ∀ (m : List UInt8) (a : Nat), m.all digitB = true → m.foldl (fun a c => a * 10 + (c.toNat - 48)) a < 18446744073709551616 → Lib.parseUint10 a m = .ok (m.foldl (fun a c => a * 10 + (c.toNat - 48)) a)
  | [], a, _, _ => rfl
  | c :: m, a, h, hl => by
    rw [List.all_cons, Bool.and_eq_true] at h
    have hc := digitB_iff.1 h.1
    rw [List.foldl_cons] at hl ⊢
    have h9 := fold_ge m (a * 10 + (c.toNat - 48))
    unfold Lib.parseUint10
    rw [if_pos hc, if_neg (by omega), if_neg (by omega)]
    exact parse_fold m _ h.2 hl
theorem parseMag_num {l : List UInt8} {n : Nat} (h : numOf l = some n) : Lib.parseMag l = .ok n := by
  unfold numOf at h
  split at h
  · rename_i h1
    rw [Bool.and_eq_true, decide_eq_true_eq] at h1
    injection h with h
    have h2 := h1.1
    unfold plainD at h2
    rw [Bool.and_eq_true, Bool.and_eq_true] at h2
    unfold Lib.parseMag
    rw [if_neg (fun e => by rw [e] at h2; exact absurd h2.1.1 (by decide)), parse_fold l 0 h2.1.2 h1.2, ← h]; rfl
  · cases h
theorem parseU_num {l : List UInt8} {n : Nat} (h : numOf l = some n) : Lib.parseUintB 64 l = .ok n := by rw [Lib.parseUintB_64]; exact parseMag_num h
theorem parseU_back {l : List UInt8} {n : Nat} (h : Lib.parseUintB 64 l = .ok n) (hd : Lib.decDigits n = l) : numOf l = some n := by
  rw [Lib.parseUintB_64] at h
  exact numOf_iff.2 ⟨Lib.parseMag_lt h, hd⟩
theorem atoi_num {l : List UInt8} {n : Nat} (h : numOf l = some n) (hn : n < 9223372036854775808) : Lib.atoiAll l = .ok (n : Int) := by
  have h1 := parseMag_num h
  have h2 := (numOf_iff.1 h).2
  cases l with
  | nil => have := dec_pos n; rw [h2] at this; simp at this
  | cons c r =>
    have hc := (digits_val n).2 c (by rw [h2]; simp)
    rw [Lib.atoiAll_plain c r (by omega) (by omega), h1]
    simp only [Lib.signless]
    rw [if_neg (by omega)]
theorem atoi_back {l : List UInt8} {v : Int} (h : Lib.atoiAll l = .ok v) (h0 : 0 ≤ v) (hd : Lib.itoa v = l) : numOf l = some v.toNat := by
  obtain ⟨u, rfl⟩ : ∃ u : Nat, v = u := ⟨v.toNat, by omega⟩
  rw [Lib.itoa_nonneg] at hd
  exact numOf_iff.2 ⟨by have := (Lib.atoiAll_bounds h).2; omega, by simpa using hd⟩
end Go.Proofs.YtkfcbafmefdhmaaDoor
