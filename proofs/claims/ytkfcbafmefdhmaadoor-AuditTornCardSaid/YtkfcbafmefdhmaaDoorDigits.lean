/-
  What is proved here: the document's Digits and Big return a number's decimal digits. Conditions: the number is not below 0, and at most 2^40, or of 64 bits.
-/
import Derived.Test.YtkfcbafmefdhmaaDoorEnt7
namespace Go.Proofs.YtkfcbafmefdhmaaDoor
open Go Go.RowKit Go.Proofs

def digC (c : Int) : UInt8 := UInt8.ofNat c.toNat
/-- 'string([]byte{c})', the bytes being a new block. -/
theorem conv_byte (c : Int) (h0 : 0 ≤ c) (h1 : c < 256) (w : World) :
    (convert 39 9 (.slice (some ⟨w.heap.size, 0, none⟩) 1 1)).run Tryd.prog (w.alloc (.cells #[.int .u8 c] 5)) = .ok (.string ⟨#[digC c]⟩) (w.alloc (.cells #[.int .u8 c] 5)) := by
  have h := run_convert_bytes_back (P := Tryd.prog) (w.alloc (.cells #[.int .u8 c] 5)) 39 9 5 ⟨w.heap.size, 0, none⟩ 1 [UInt8.ofNat c.toNat] Tryd.underlying39 Tryd.underlying5 Tryd.underlying9 (fun j hj => by
    have : j = 0 := by simpa using hj
    subst this
    rw [ad_add]
    refine blk_cell (blk_new w _) 0 ?_
    have e : ((UInt8.ofNat c.toNat).toNat : Int) = c := by
      rw [UInt8.toNat_ofNat']; omega
    show some (Value.int .u8 c) = some (.int .u8 ((UInt8.ofNat c.toNat).toNat : Int))
    rw [e])
  exact h

theorem cons_bytes (c : UInt8) (l : List UInt8) : (⟨#[c]⟩ : ByteArray) ++ ⟨l.toArray⟩ = ⟨(c :: l).toArray⟩ := ByteArray.mk_append_mk [c] l
def strLen : Value → Nat | .string s => s.size | _ => 0
theorem digC_mod (x : Nat) : digC (48 + (x : Int) % 10) = UInt8.ofNat (48 + x % 10) := by unfold digC; congr 1
theorem dec_step (u : Nat) (h : ¬ u < 10) : Lib.decDigits u = Lib.decDigits (u / 10) ++ [UInt8.ofNat (48 + u % 10)] := by
  rw [Lib.decDigits, dif_neg h]
theorem dec_one (u : Nat) (h : u < 10) : Lib.decDigits u = [UInt8.ofNat (48 + u)] := by
  rw [Lib.decDigits, dif_pos h]

set_option maxRecDepth 100000 in
set_option maxHeartbeats 2000000 in
theorem ref_Digits (n : Int) (h0 : 0 ≤ n) (h1 : n ≤ 1099511627776) (w : World) :
    Calls Tryd.prog 26 #[.int .i64 n] w fun e w' => e = .returned (.string (itoaB n)) ∧ Ext w w' := by
  obtain ⟨u, rfl⟩ : ∃ u : Nat, n = u := ⟨n.toNat, by omega⟩
  have hlen := itoa_len u (by omega) h1
  have Hit := Lib.hid (Lib.itoa_nonneg u)
  rw [Hit.out] at hlen
  go_enter Tryd.func26, Tryd.ntmps26
  go_wp2_with fail
  go_loopw [0, 3] (fun i s wr => ∃ (x : Nat) (l : List UInt8), x ≤ u ∧ i = .int .i64 x ∧ s = .string ⟨l.toArray⟩ ∧ Lib.decDigits u = Lib.decDigits x ++ l ∧ Ext w wr) (fun i _ _ => (intOf i).toNat)
  case atStart => exact ⟨u, [], Nat.le_refl _, rfl, rfl, by simp, Keeps.refl _ _⟩
  case round =>
    obtain ⟨x, l, hx, rfl, rfl, hd, hxx⟩ := hrel
    have hl : l.length ≤ 1000 := by rw [hd] at hlen; simp at hlen; omega
    have Hd := Lib.hid hd
    have Hxx := Lib.hid hxx
    clear hd hxx
    by_cases hlt : 9 < x
    · have hcv := conv_byte (48 + (x : Int) % 10) (by omega) (by omega)
      go_wp2_with fail
      go_roundw
      case rel => exact ⟨x / 10, UInt8.ofNat (48 + x % 10) :: l, by omega, by go_num, by rw [cons_bytes, digC_mod x], by rw [Hd.out, dec_step x (by omega)]; simp, Keeps.alloc Hxx.out _⟩
      case measure => simp [intOf]; omega
    · have hcv := conv_byte (48 + (x : Int)) (by omega) (by omega)
      go_wp2_with fail
      go_ret
      refine ⟨?_, Keeps.alloc Hxx.out _⟩
      show Ending.returned (.string (⟨#[digC (48 + (x : Int))]⟩ ++ ⟨l.toArray⟩)) = _
      rw [cons_bytes, show digC (48 + (x : Int)) = UInt8.ofNat (48 + x) by unfold digC; congr 1]
      unfold itoaB
      rw [Hit.out, Hd.out, dec_one x (by omega)]
      rfl

/-- One round of Big. -/
theorem big_step {u x : Nat} {l : List UInt8} (h : (l = [] ∧ x = u) ∨ (l ≠ [] ∧ x = 0 ∧ Lib.decDigits u = l) ∨ (l ≠ [] ∧ 0 < x ∧ Lib.decDigits u = Lib.decDigits x ++ l)) (hgo : 0 < x ∨ l = []) :
    ((UInt8.ofNat (48 + x % 10) :: l) ≠ [] ∧ x / 10 = 0 ∧ Lib.decDigits u = UInt8.ofNat (48 + x % 10) :: l) ∨ ((UInt8.ofNat (48 + x % 10) :: l) ≠ [] ∧ 0 < x / 10 ∧ Lib.decDigits u = Lib.decDigits (x / 10) ++ (UInt8.ofNat (48 + x % 10) :: l)) := by
  have hd : Lib.decDigits u = Lib.decDigits x ++ l := by
    rcases h with ⟨rfl, rfl⟩ | ⟨h1, h2, _⟩ | ⟨_, _, h3⟩
    · simp
    · rcases hgo with h | h
      · omega
      · exact absurd h h1
    · exact h3
  by_cases h10 : x < 10
  · left
    refine ⟨by simp, by omega, ?_⟩
    rw [hd, dec_one x h10, show x % 10 = x by omega]; rfl
  · right
    refine ⟨by simp, by omega, ?_⟩
    rw [hd, dec_step x h10]; simp

set_option maxRecDepth 100000 in
set_option maxHeartbeats 2000000 in
theorem ref_Big (n : Int) (h0 : 0 ≤ n) (h1 : n < 18446744073709551616) (w : World) :
    Calls Tryd.prog 34 #[.int .u64 n] w fun e w' => e = .returned (.string ⟨(Lib.decDigits n.toNat).toArray⟩) ∧ Ext w w' := by
  obtain ⟨u, rfl⟩ : ∃ u : Nat, n = u := ⟨n.toNat, by omega⟩
  have hlen := dec_len u (by omega)
  rw [Int.toNat_natCast]
  go_enter Tryd.func34, Tryd.ntmps34
  go_wp2_with fail
  go_loopw [0, 3] (fun i s wr => ∃ (x : Nat) (l : List UInt8), x ≤ u ∧ i = .int .u64 x ∧ s = .string ⟨l.toArray⟩ ∧ ((l = [] ∧ x = u) ∨ (l ≠ [] ∧ x = 0 ∧ Lib.decDigits u = l) ∨ (l ≠ [] ∧ 0 < x ∧ Lib.decDigits u = Lib.decDigits x ++ l)) ∧ Ext w wr) (fun i s _ => (intOf i).toNat + (1 - strLen s))
  case atStart => exact ⟨u, [], Nat.le_refl _, rfl, rfl, .inl ⟨rfl, rfl⟩, Keeps.refl _ _⟩
  case round =>
    obtain ⟨x, l, hx, rfl, rfl, hd, hxx⟩ := hrel
    have hl : l.length ≤ 1000 := by
      rcases hd with ⟨rfl, _⟩ | ⟨_, _, hd⟩ | ⟨_, _, hd⟩
      · simp
      · rw [← hd]; exact hlen
      · rw [hd] at hlen; simp at hlen; omega
    have Hd := Lib.hid hd
    have Hxx := Lib.hid hxx
    clear hd hxx
    by_cases hgo : 0 < x ∨ l = []
    · have hnew := big_step Hd.out hgo
      have Hnew := Lib.hid hnew
      clear hnew
      by_cases hpos : 0 < x
      · have hpi : (0 : Int) < (x : Int) := by omega
        have hcv := conv_byte (48 + (x : Int) % 10) (by omega) (by omega)
        go_wp2_with fail
        go_roundw
        case rel => exact ⟨x / 10, UInt8.ofNat (48 + x % 10) :: l, by omega, by go_num, by rw [cons_bytes, digC_mod x], .inr Hnew.out, Keeps.alloc Hxx.out _⟩
        case measure => simp [intOf, strLen]; omega
      · obtain rfl : x = 0 := by omega
        obtain rfl : l = [] := by
          rcases hgo with h | h
          · omega
          · exact h
        have hcv := conv_byte 48 (by omega) (by omega)
        go_wp2_with fail
        go_roundw
        case rel => exact ⟨0, [UInt8.ofNat 48], by omega, by go_num, rfl, .inr (by simpa using Hnew.out), Keeps.alloc Hxx.out _⟩
        case measure => simp [intOf, strLen]; decide
    · obtain rfl : x = 0 := by omega
      have hne : l ≠ [] := fun h => hgo (.inr h)
      have hle : l.isEmpty = false := by cases l with | nil => exact absurd rfl hne | cons => rfl
      have Hf := Lib.hid (show Lib.decDigits u = l by
        rcases Hd.out with ⟨h, _⟩ | ⟨_, _, h⟩ | ⟨_, h, _⟩
        · exact absurd h hne
        · exact h
        · omega)
      clear hne
      go_wp2_with fail
      go_ret
      exact ⟨by rw [Hf.out]; rfl, Hxx.out⟩
end Go.Proofs.YtkfcbafmefdhmaaDoor
