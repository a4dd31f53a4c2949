/-
  What is proved here: the document's number of a word is the plain function's. Conditions: texts of at most 2^47 bytes.
-/
import Derived.Test.YtkfcbafmefdhmaaDoorAuP
namespace Go.Proofs.YtkfcbafmefdhmaaDoor
open Go Go.RowKit Go.Proofs
attribute [local go_sem ↓] Go.wp_at_zero Go.wp_at_succ
theorem fold_pow : ∀ (m : List UInt8) (a : Nat), a * 10 ^ m.length ≤ m.foldl (fun a c => a * 10 + (c.toNat - 48)) a
  | [], a => by simp
  | c :: m, a => by
    rw [List.foldl_cons]
    have h1 := fold_pow m (a * 10 + (c.toNat - 48))
    have h2 : a * 10 ^ (c :: m).length ≤ (a * 10 + (c.toNat - 48)) * 10 ^ m.length := by
      rw [List.length_cons, Nat.pow_succ, Nat.mul_comm (10 ^ m.length) 10, ← Nat.mul_assoc]
      exact Nat.mul_le_mul_right _ (by omega)
    exact Nat.le_trans h2 h1
theorem numOf_len {l : List UInt8} {n : Nat} (h : numOf l = some n) : l.length ≤ 20 := by
  have h0 := numOf_iff.1 h
  have hp : plainD l = true := by rw [← h0.2]; exact plainD_dec n
  have hv : digV l = n := by rw [← h0.2]; exact (digits_val n).1
  unfold plainD at hp
  rw [Bool.and_eq_true, Bool.and_eq_true] at hp
  obtain ⟨⟨_, h2⟩, h3⟩ := hp
  by_cases h9 : l.length ≤ 20
  · exact h9
  · cases l with
    | nil => simp
    | cons c m =>
      have hm : 20 ≤ m.length := by simp at h9; omega
      rw [List.all_cons, Bool.and_eq_true] at h2
      have hc := digitB_iff.1 h2.1
      have hne : c ≠ 48 := by
        intro e
        subst e
        rw [Bool.or_eq_true] at h3
        rcases h3 with h3 | h3
        · simp at h3; subst h3; simp at hm
        · simp at h3
      have hc2 : c.toNat ≠ 48 := fun e => hne (UInt8.toNat_inj.1 e)
      have h5 : digV (c :: m) = m.foldl (fun a c => a * 10 + (c.toNat - 48)) (0 * 10 + (c.toNat - 48)) := rfl
      have h6 := fold_pow m (0 * 10 + (c.toNat - 48))
      have h7 : 10 ^ 20 ≤ 10 ^ m.length := Nat.pow_le_pow_right (by decide) hm
      have h8 : 10 ^ m.length ≤ (0 * 10 + (c.toNat - 48)) * 10 ^ m.length := Nat.le_mul_of_pos_left _ (by omega)
      have h10 : (10 : Nat) ^ 20 = 100000000000000000000 := by decide
      omega
theorem numOf_no1 {s : ByteArray} (h : s.size < 1) : numOf s.data.toList = none := by
  have h1 : s.data.toList.length = s.size := by simp
  have h2 : s.data.toList = [] := List.eq_nil_of_length_eq_zero (by omega)
  rw [h2]; rfl
theorem numOf_no2 {s : ByteArray} (h : 20 < s.size) : numOf s.data.toList = none := by
  have h1 : s.data.toList.length = s.size := by simp
  cases h9 : numOf s.data.toList with
  | none => rfl
  | some n => have := numOf_len h9; omega
theorem list_zero {s : ByteArray} (h : 0 < s.size) : s.data.toList.head? = some s[0] := by
  rw [List.head?_eq_getElem?, List.getElem?_eq_getElem (by simpa using h)]
  rfl
theorem numOf_no3 {s : ByteArray} (h : 1 < s.size) (hz : s[0] = 48) : numOf s.data.toList = none := by
  have h1 : s.data.toList.length = s.size := by simp
  have h2 := list_zero (s := s) (by omega)
  unfold numOf plainD
  rw [h2, hz]
  have h3 : decide (s.data.toList.length = 1) = false := by simp; omega
  rw [h3]
  simp
/-- The digits up to k are digits, of a number that is none too great. -/
structure NumAt (s : ByteArray) (k : Nat) (V : Nat) : Prop where
  v : V = digV (s.data.toList.take k)
  d : (s.data.toList.take k).all digitB = true
  lt : V < 18446744073709551616
theorem NumAt.zero (s : ByteArray) : NumAt s 0 0 := ⟨rfl, rfl, by decide⟩
theorem NumAt.step {s : ByteArray} {k V : Nat} (h : NumAt s k V) (hk : k < s.size) (h1 : 48 ≤ s[k].toNat) (h2 : s[k].toNat ≤ 57) (h3 : V * 10 + (s[k].toNat - 48) < 18446744073709551616) : NumAt s (k + 1) (V * 10 + (s[k].toNat - 48)) := by
  refine ⟨?_, ?_, h3⟩
  · rw [take_snoc s k hk, digV_snoc, ← h.v]
  · rw [take_snoc s k hk, List.all_append, h.d]
    simp [digitB_iff, h1, h2]
theorem NumAt.noDig {s : ByteArray} {k : Nat} (hk : k < s.size) (h1 : s[k].toNat < 48 ∨ 57 < s[k].toNat) : numOf s.data.toList = none := by
  have hm : s[k] ∈ s.data.toList := by
    have h3 : k < s.data.toList.length := by simpa using hk
    have : s.data.toList[k] = s[k] := rfl
    rw [← this]
    exact List.getElem_mem h3
  cases h9 : numOf s.data.toList with
  | none => rfl
  | some n =>
    have := (digits_val n).2 s[k] (by rw [(numOf_iff.1 h9).2]; exact hm)
    omega
theorem NumAt.noBig {s : ByteArray} {k V : Nat} (h : NumAt s k V) (hk : k < s.size) (h3 : 18446744073709551616 ≤ V * 10 + (s[k].toNat - 48)) : numOf s.data.toList = none := by
  cases h9 : numOf s.data.toList with
  | none => rfl
  | some n =>
    obtain ⟨a, b⟩ := numOf_iff.1 h9
    have h4 : digV s.data.toList = n := by rw [← b]; exact (digits_val n).1
    have h5 : digV (s.data.toList.take (k + 1)) ≤ digV s.data.toList := by
      conv => rhs; rw [← List.take_append_drop (k + 1) s.data.toList]
      unfold digV
      rw [List.foldl_append]
      exact fold_ge _ _
    rw [take_snoc s k hk, digV_snoc, ← h.v] at h5
    omega
theorem NumAt.done {s : ByteArray} {V : Nat} (h : NumAt s s.size V) (h1 : ¬ s.size < 1) (h2 : s.size = 1 ∨ ∃ h : 0 < s.size, s[0] ≠ 48) : numOf s.data.toList = some V := by
  have hv := h.v
  have hd := h.d
  rw [take_all s _ (Nat.le_refl _)] at hv hd
  unfold numOf
  have hl : s.data.toList.length = s.size := by simp
  have hp : plainD s.data.toList = true := by
    unfold plainD
    rw [hd, Bool.and_true, Bool.and_eq_true]
    refine ⟨?_, ?_⟩
    · cases hx : s.data.toList with
      | nil => rw [hx] at hl; simp at hl; omega
      | cons => rfl
    · rw [Bool.or_eq_true]
      rcases h2 with h2 | h2
      · left; simpa using (show s.data.toList.length = 1 by omega)
      · right
        obtain ⟨h8, h2⟩ := h2
        rw [list_zero h8]
        simpa using h2
  rw [hp, ← hv, Bool.true_and, if_pos (decide_eq_true h.lt)]
def numV (l : List UInt8) : Value := match numOf l with | some n => .tuple #[.int .u64 (n : Int), .bool true] | none => .tuple #[.int .u64 0, .bool false]
theorem numV_none {l : List UInt8} (h : numOf l = none) : numV l = .tuple #[.int .u64 0, .bool false] := by unfold numV; rw [h]
theorem numV_some {l : List UInt8} {n : Nat} (h : numOf l = some n) : numV l = .tuple #[.int .u64 (n : Int), .bool true] := by unfold numV; rw [h]
def lim : Nat := 1844674407370955161
set_option maxRecDepth 100000 in
set_option maxHeartbeats 2000000 in
theorem ref_number (s : ByteArray) (w : World) (hs : s.size ≤ maxLen) :
    Calls Tryd.prog 41 #[.string s] w fun e w' => e = .returned (numV s.data.toList) ∧ w = w' := by
  unfold maxLen at hs
  by_cases h1 : s.size < 1
  · have Hf := Lib.hid (numOf_no1 h1)
    go_enter Tryd.func41, Tryd.ntmps41
    go_wp2_with fail
    exact bodyPost_ret (v := .tuple #[.int .u64 0, .bool false]) (by simp [results, Tryd.results41, go_sem]) rfl ⟨by rw [numV_none Hf.out], rfl⟩
  by_cases h2 : 20 < s.size
  · have Hf := Lib.hid (numOf_no2 h2)
    go_enter Tryd.func41, Tryd.ntmps41
    go_wp2_with fail
    exact bodyPost_ret (v := .tuple #[.int .u64 0, .bool false]) (by simp [results, Tryd.results41, go_sem]) rfl ⟨by rw [numV_none Hf.out], rfl⟩
  have hcase : s.size = 1 ∨ (1 < s.size ∧ ∃ h : 0 < s.size, ((s[0].toNat : Int) == 48) = true) ∨ (1 < s.size ∧ ∃ h : 0 < s.size, ((s[0].toNat : Int) == 48) = false) := by
    by_cases h9 : 1 < s.size
    · right
      cases h8 : ((s[0].toNat : Int) == 48)
      · exact .inr ⟨h9, by omega, h8⟩
      · exact .inl ⟨h9, by omega, h8⟩
    · left; omega
  have hlast : (s.size = 1 ∨ (1 < s.size ∧ ∃ h : 0 < s.size, ((s[0].toNat : Int) == 48) = false)) → (s.size = 1 ∨ ∃ h : 0 < s.size, s[0] ≠ 48) := by
    rintro (h | ⟨h, h', h8⟩)
    · exact .inl h
    · right
      refine ⟨h', fun h7 => ?_⟩
      rw [h7] at h8
      exact absurd h8 (by decide)
  have Hlast := Lib.hid hlast
  clear hlast
  rcases hcase with h9 | ⟨h9, h8, hz⟩ | ⟨h9, h8, hz⟩
  case inr.inl =>
    have Hf := Lib.hid (numOf_no3 h9 (UInt8.toNat_inj.1 (by have := eq_of_beq hz; show s[0].toNat = 48; omega)))
    go_enter Tryd.func41, Tryd.ntmps41
    go_wp2_with fail
    exact bodyPost_ret (v := .tuple #[.int .u64 0, .bool false]) (by simp [results, Tryd.results41, go_sem]) rfl ⟨by rw [numV_none Hf.out], rfl⟩
  case inl =>
    have Hl := Lib.hid (Hlast.out (.inl h9))
    go_enter Tryd.func41, Tryd.ntmps41
    go_wp2_with fail
    go_loop [4, 5] (fun n i => ∃ k V : Nat, k ≤ s.size ∧ i = .int .i64 k ∧ n = .int .u64 (V : Int) ∧ NumAt s k V) (fun _ i => s.size - (intOf i).toNat)
    case atStart => exact ⟨0, 0, Nat.zero_le _, rfl, rfl, NumAt.zero s⟩
    case round =>
      obtain ⟨k, V, hk, rfl, rfl, hat⟩ := hrel
      have Hat := Lib.hid hat
      clear hat
      by_cases hlt : k < s.size
      · obtain ⟨c, hc⟩ : ∃ c : Nat, c = s[k].toNat := ⟨_, rfl⟩
        have hcb : c < 256 := by rw [hc]; exact s[k].toNat_lt
        by_cases h3 : c < 48
        · have Hf := Lib.hid (NumAt.noDig hlt (.inl (by rw [← hc]; exact h3)))
          have h3' : (s[k].toNat : Int) < 48 := by omega
          clear hc
          go_wp2_with fail
          exact bodyPost_ret (v := .tuple #[.int .u64 0, .bool false]) (by simp [results, Tryd.results41, go_sem]) rfl ⟨by rw [numV_none Hf.out], rfl⟩
        by_cases h4 : 57 < c
        · have Hf := Lib.hid (NumAt.noDig hlt (.inr (by rw [← hc]; exact h4)))
          have h3' : ¬ (s[k].toNat : Int) < 48 := by omega
          have h4' : (57 : Int) < (s[k].toNat : Int) := by omega
          go_wp2_with fail
          exact bodyPost_ret (v := .tuple #[.int .u64 0, .bool false]) (by simp [results, Tryd.results41, go_sem]) rfl ⟨by rw [numV_none Hf.out], rfl⟩
        have h3' : ¬ (s[k].toNat : Int) < 48 := by omega
        have h4' : ¬ (57 : Int) < (s[k].toNat : Int) := by omega
        by_cases h5 : 1844674407370955161 < V
        · have Hf := Lib.hid (Hat.out.noBig hlt (by omega))
          have h5' : (1844674407370955161 : Int) < (V : Int) := by omega
          go_wp2_with fail
          exact bodyPost_ret (v := .tuple #[.int .u64 0, .bool false]) (by simp [results, Tryd.results41, go_sem]) rfl ⟨by rw [numV_none Hf.out], rfl⟩
        have h5' : ¬ (1844674407370955161 : Int) < (V : Int) := by omega
        by_cases h6 : V = 1844674407370955161 ∧ 53 < c
        · have Hf := Lib.hid (Hat.out.noBig hlt (by omega))
          obtain ⟨rfl, h7⟩ := h6
          have h7' : (5 : Int) < (s[k].toNat : Int) - 48 := by omega
          go_wp2_with fail
          exact bodyPost_ret (v := .tuple #[.int .u64 0, .bool false]) (by simp [results, Tryd.results41, go_sem]) rfl ⟨by rw [numV_none Hf.out], rfl⟩
        have hb : V * 10 + (s[k].toNat - 48) < 18446744073709551616 := by omega
        have Hst := Lib.hid (Hat.out.step hlt (by omega) (by omega) hb)
        by_cases h7 : V = 1844674407370955161
        · have h8' : ¬ (5 : Int) < (s[k].toNat : Int) - 48 := by omega
          have h7' : ((V : Int) == 1844674407370955161) = true := by simp; omega
          go_wp2_with fail
          go_round
          case rel => exact ⟨k + 1, V * 10 + (s[k].toNat - 48), by omega, by go_num, by go_num, Hst.out⟩
          case measure => simp [intOf]; omega
        · have h7' : ((V : Int) == 1844674407370955161) = false := by simp; omega
          go_wp2_with fail
          go_round
          case rel => exact ⟨k + 1, V * 10 + (s[k].toNat - 48), by omega, by go_num, by go_num, Hst.out⟩
          case measure => simp [intOf]; omega
      · obtain rfl : k = s.size := by omega
        have Hf := Lib.hid (Hat.out.done h1 Hl.out)
        go_wp2_with fail
        exact bodyPost_ret (v := .tuple #[.int .u64 (V : Int), .bool true]) (by simp [results, Tryd.results41, go_sem]) rfl ⟨by rw [numV_some Hf.out], rfl⟩
  case inr.inr =>
    have Hl := Lib.hid (Hlast.out (.inr ⟨h9, h8, hz⟩))
    go_enter Tryd.func41, Tryd.ntmps41
    go_wp2_with fail
    go_loop [4, 5] (fun n i => ∃ k V : Nat, k ≤ s.size ∧ i = .int .i64 k ∧ n = .int .u64 (V : Int) ∧ NumAt s k V) (fun _ i => s.size - (intOf i).toNat)
    case atStart => exact ⟨0, 0, Nat.zero_le _, rfl, rfl, NumAt.zero s⟩
    case round =>
      obtain ⟨k, V, hk, rfl, rfl, hat⟩ := hrel
      have Hat := Lib.hid hat
      clear hat
      by_cases hlt : k < s.size
      · obtain ⟨c, hc⟩ : ∃ c : Nat, c = s[k].toNat := ⟨_, rfl⟩
        have hcb : c < 256 := by rw [hc]; exact s[k].toNat_lt
        by_cases h3 : c < 48
        · have Hf := Lib.hid (NumAt.noDig hlt (.inl (by rw [← hc]; exact h3)))
          have h3' : (s[k].toNat : Int) < 48 := by omega
          clear hc
          go_wp2_with fail
          exact bodyPost_ret (v := .tuple #[.int .u64 0, .bool false]) (by simp [results, Tryd.results41, go_sem]) rfl ⟨by rw [numV_none Hf.out], rfl⟩
        by_cases h4 : 57 < c
        · have Hf := Lib.hid (NumAt.noDig hlt (.inr (by rw [← hc]; exact h4)))
          have h3' : ¬ (s[k].toNat : Int) < 48 := by omega
          have h4' : (57 : Int) < (s[k].toNat : Int) := by omega
          go_wp2_with fail
          exact bodyPost_ret (v := .tuple #[.int .u64 0, .bool false]) (by simp [results, Tryd.results41, go_sem]) rfl ⟨by rw [numV_none Hf.out], rfl⟩
        have h3' : ¬ (s[k].toNat : Int) < 48 := by omega
        have h4' : ¬ (57 : Int) < (s[k].toNat : Int) := by omega
        by_cases h5 : 1844674407370955161 < V
        · have Hf := Lib.hid (Hat.out.noBig hlt (by omega))
          have h5' : (1844674407370955161 : Int) < (V : Int) := by omega
          go_wp2_with fail
          exact bodyPost_ret (v := .tuple #[.int .u64 0, .bool false]) (by simp [results, Tryd.results41, go_sem]) rfl ⟨by rw [numV_none Hf.out], rfl⟩
        have h5' : ¬ (1844674407370955161 : Int) < (V : Int) := by omega
        by_cases h6 : V = 1844674407370955161 ∧ 53 < c
        · have Hf := Lib.hid (Hat.out.noBig hlt (by omega))
          obtain ⟨rfl, h7⟩ := h6
          have h7' : (5 : Int) < (s[k].toNat : Int) - 48 := by omega
          go_wp2_with fail
          exact bodyPost_ret (v := .tuple #[.int .u64 0, .bool false]) (by simp [results, Tryd.results41, go_sem]) rfl ⟨by rw [numV_none Hf.out], rfl⟩
        have hb : V * 10 + (s[k].toNat - 48) < 18446744073709551616 := by omega
        have Hst := Lib.hid (Hat.out.step hlt (by omega) (by omega) hb)
        by_cases h7 : V = 1844674407370955161
        · have h8' : ¬ (5 : Int) < (s[k].toNat : Int) - 48 := by omega
          have h7' : ((V : Int) == 1844674407370955161) = true := by simp; omega
          go_wp2_with fail
          go_round
          case rel => exact ⟨k + 1, V * 10 + (s[k].toNat - 48), by omega, by go_num, by go_num, Hst.out⟩
          case measure => simp [intOf]; omega
        · have h7' : ((V : Int) == 1844674407370955161) = false := by simp; omega
          go_wp2_with fail
          go_round
          case rel => exact ⟨k + 1, V * 10 + (s[k].toNat - 48), by omega, by go_num, by go_num, Hst.out⟩
          case measure => simp [intOf]; omega
      · obtain rfl : k = s.size := by omega
        have Hf := Lib.hid (Hat.out.done h1 Hl.out)
        go_wp2_with fail
        exact bodyPost_ret (v := .tuple #[.int .u64 (V : Int), .bool true]) (by simp [results, Tryd.results41, go_sem]) rfl ⟨by rw [numV_some Hf.out], rfl⟩
end Go.Proofs.YtkfcbafmefdhmaaDoor
