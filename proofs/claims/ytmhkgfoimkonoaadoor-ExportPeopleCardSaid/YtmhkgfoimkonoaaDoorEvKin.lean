/-
  What is proved here: the document's Kinds are the kinds' names, in new memory; its some and none put a point for nothing, and back. Conditions: none.
  the digits of a number are read as it; a point that stands for nothing is read as nothing. No program is in sight. No condition but those told.
-/
import Derived.Test.YtmhkgfoimkonoaaDoorEvDig
namespace Go.Proofs.YtmhkgfoimkonoaaDoor
open Go Go.RowKit Go.Proofs
attribute [local go_sem ↓] Go.wp_at_zero Go.wp_at_succ
def KindsPost (w : World) (e : Ending) (w' : World) : Prop := ∃ g, e = .returned (.slice (some ⟨g, 0, none⟩) 15 15) ∧ w'.heap[g]? = some (.cells (kindsB.map Value.string).toArray 9) ∧ w.heap.size ≤ g ∧ Ext w w'
theorem ref_Kinds (w : World) : Calls Tryd.prog 72 #[] w (KindsPost w) := by
  go_enter Tryd.func72, Tryd.ntmps72
  go_wp2_with fail
  go_ret
  exact ⟨_, rfl, blk_new _ _, Nat.le_refl _, (Keeps.refl _ _).alloc _⟩
def undotB (s : ByteArray) : ByteArray := if s.data.toList == [46] then ⟨#[]⟩ else s
theorem ref_some (s : ByteArray) (w : World) : Calls Tryd.prog 76 #[.string s] w fun e w' => e = .returned (.string (dotB s)) ∧ w = w' := by
  cases hn : noneB s <;> have hn' : s.toList.isEmpty = _ := hn
  · have Hd := Lib.hid (show dotB s = s by unfold dotB; rw [hn]; rfl)
    go_enter Tryd.func76, Tryd.ntmps76
    go_wp2_with fail
    go_ret
    exact ⟨by rw [Hd.out]; rfl, rfl⟩
  · have Hd := Lib.hid (show dotB s = ⟨#[46]⟩ by unfold dotB; rw [hn]; rfl)
    go_enter Tryd.func76, Tryd.ntmps76
    go_wp2_with fail
    go_ret
    exact ⟨by rw [Hd.out]; rfl, rfl⟩
theorem ref_none (s : ByteArray) (w : World) : Calls Tryd.prog 74 #[.string s] w fun e w' => e = .returned (.string (undotB s)) ∧ w = w' := by
  cases hn : (s.data.toList == [46]) <;> have hn' : (s.toList == [46]) = _ := (show (s.toList == [46]) = (s.data.toList == [46]) by rw [ByteArray.toList_eq]).trans hn
  · have Hd := Lib.hid (show undotB s = s by unfold undotB; rw [hn]; rfl)
    clear hn
    go_enter Tryd.func74, Tryd.ntmps74
    go_wp2_with fail
    go_ret
    exact ⟨by rw [Hd.out]; rfl, rfl⟩
  · have Hd := Lib.hid (show undotB s = ⟨#[]⟩ by unfold undotB; rw [hn]; rfl)
    clear hn
    go_enter Tryd.func74, Tryd.ntmps74
    go_wp2_with fail
    go_ret
    exact ⟨by rw [Hd.out]; rfl, rfl⟩
end Go.Proofs.YtmhkgfoimkonoaaDoor
namespace Go.Proofs.YtmhkgfoimkonoaaDoor
open Go Go.RowKit
theorem undot_dot {s : ByteArray} (h : s ≠ ⟨#[46]⟩) : undotB (dotB s) = s := by
  unfold dotB
  cases h1 : noneB s
  · rw [if_neg (by decide)]
    unfold undotB
    rw [if_neg]
    intro h2
    apply h
    apply toList_inj
    rw [beq_iff_eq.1 h2]
  · rw [if_pos rfl, noneB_eq h1]; rfl
theorem dec_first (u : Nat) : ∀ c, (Lib.decDigits u).head? = some c → (Lib.decDigits u).length = 1 ∨ c ≠ 48 := by
  induction u using Nat.strongRecOn with
  | ind u ih =>
    intro c hc
    rw [Lib.decDigits] at hc ⊢
    by_cases h : u < 10
    · rw [dif_pos h]; exact .inl rfl
    · rw [dif_neg h] at hc ⊢
      right
      obtain ⟨x, xs, hx⟩ : ∃ x xs, Lib.decDigits (u / 10) = x :: xs := by
        cases hd : Lib.decDigits (u / 10) with
        | nil => rw [Lib.decDigits] at hd; split at hd <;> simp at hd
        | cons x xs => exact ⟨x, xs, rfl⟩
      rw [hx] at hc
      have hcx : x = c := by simpa using hc
      rcases ih (u / 10) (by omega) x (by rw [hx]; rfl) with h1 | h1
      · by_cases h10 : u / 10 < 10
        · rw [Lib.decDigits, dif_pos h10] at hx
          injection hx with hx _
          rw [← hcx, ← hx]
          intro e
          have := congrArg UInt8.toNat e
          rw [UInt8.toNat_ofNat'] at this
          have h48 : (48 : UInt8).toNat = 48 := rfl
          omega
        · rw [Lib.decDigits, dif_neg h10] at h1
          rw [List.length_append] at h1
          have : (Lib.decDigits (u / 10 / 10)).length ≠ 0 := by
            rw [Lib.decDigits]; split <;> simp
          simp at h1
          exact absurd h1 (by simpa using this)
      · rw [← hcx]; exact h1
theorem dec_len13 (u : Nat) (k : Nat) (h : u < 10 ^ (k + 1)) : (Lib.decDigits u).length ≤ k + 1 := by
  induction k generalizing u with
  | zero => rw [Lib.decDigits, dif_pos (by simpa using h)]; simp
  | succ k ih =>
    rw [Lib.decDigits]
    split
    · simp
    · rw [List.length_append]
      have := ih (u / 10) (by rw [Nat.pow_succ] at h; omega)
      simp; omega
theorem itoa_data (u : Nat) : (itoaB (u : Int)).data.toList = Lib.decDigits u := by rw [← Lib.itoa_nonneg]; simp [itoaB]
theorem itoa_size (u : Nat) : (itoaB (u : Int)).size = (Lib.decDigits u).length := by rw [← itoa_data]; simp
theorem dec_pos (u : Nat) : 1 ≤ (Lib.decDigits u).length := by rw [Lib.decDigits]; split <;> simp
theorem digOk_itoa {n : Int} (h0 : 0 ≤ n) (h1 : n ≤ 1099511627776) : digOk (itoaB n) = true ∧ digN (itoaB n) = n ∧ readI (itoaB n) = n := by
  obtain ⟨u, rfl⟩ : ∃ u : Nat, n = u := ⟨n.toNat, by omega⟩
  have hl := dec_len13 u 12 (by have : (10 : Nat) ^ (12 + 1) = 10000000000000 := by decide
                                omega)
  have hd := digits_val u
  have h2 : digOk (itoaB (u : Int)) = true := by
    unfold digOk
    rw [itoa_size, itoa_data]
    have hp := dec_pos u
    simp only [Bool.and_eq_true, decide_eq_true_eq, List.all_eq_true]
    exact ⟨⟨hp, hl⟩, fun x hx => by unfold digitB; have := hd.2 x hx; simp [this]⟩
  have h3 : zeroB (itoaB (u : Int)) = false := by
    unfold zeroB
    rw [itoa_size, itoa_data]
    rw [Bool.eq_false_iff]
    intro h9
    simp only [Bool.and_eq_true, decide_eq_true_eq, beq_iff_eq] at h9
    rcases dec_first u 48 h9.2 with h | h
    · omega
    · exact h rfl
  refine ⟨h2, ?_, ?_⟩
  · unfold digN; rw [h2, if_pos rfl, itoa_data, hd.1]
  · unfold readI; rw [h2, h3, itoa_data, hd.1]; rfl
theorem dot_itoa {n : Int} (h0 : 0 ≤ n) : dotB (itoaB n) = itoaB n := by
  unfold dotB
  obtain ⟨u, rfl⟩ : ∃ u : Nat, n = u := ⟨n.toNat, by omega⟩
  rw [if_neg]
  intro h
  have h1 := noneB_size h
  rw [itoa_size] at h1
  have := dec_pos u
  omega
theorem dot_kind {k : Nat} (h : k < 15) : dotB (kindsB.getD k ⟨#[]⟩) = kindsB.getD k ⟨#[]⟩ := by
  have : ∀ i : Fin 15, noneB (kindsB.getD i ⟨#[]⟩) = false := by decide +kernel
  unfold dotB
  rw [this ⟨k, h⟩]; rfl
theorem dot_name {s : ByteArray} (h : nameB s = true) : dotB s = s := by
  unfold dotB
  rw [if_neg]
  intro h1
  have h2 := noneB_size h1
  have := (nameB_size h).1
  omega
end Go.Proofs.YtmhkgfoimkonoaaDoor
