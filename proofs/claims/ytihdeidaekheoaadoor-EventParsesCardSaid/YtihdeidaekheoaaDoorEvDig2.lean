/-
  What is proved here: the document's Read and Digits return what the plain functions say. Conditions: texts that are texts; a number that is told is not below 0, and at most 2^40.
-/
import Derived.Test.YtihdeidaekheoaaDoorEvDig
namespace Go.Proofs.YtihdeidaekheoaaDoor
open Go Go.RowKit Go.Proofs
attribute [local go_sem ↓] Go.wp_at_zero Go.wp_at_succ

def digC (c : Int) : UInt8 := UInt8.ofNat c.toNat
/-- 'string([]byte{c})', the bytes being a new block. -/
theorem conv_byte (c : Int) (h0 : 0 ≤ c) (h1 : c < 256) (w : World) :
    (convert 28 9 (.slice (some ⟨w.heap.size, 0, none⟩) 1 1)).run Tryd.prog (w.alloc (.cells #[.int .u8 c] 5)) = .ok (.string ⟨#[digC c]⟩) (w.alloc (.cells #[.int .u8 c] 5)) := by
  have h := run_convert_bytes_back (P := Tryd.prog) (w.alloc (.cells #[.int .u8 c] 5)) 28 9 5 ⟨w.heap.size, 0, none⟩ 1 [UInt8.ofNat c.toNat] Tryd.underlying28 Tryd.underlying5 Tryd.underlying9 (fun j hj => by
    have : j = 0 := by simpa using hj
    subst this
    rw [ad_add]
    refine blk_cell (blk_new w _) 0 ?_
    have e : ((UInt8.ofNat c.toNat).toNat : Int) = c := by
      rw [UInt8.toNat_ofNat']; omega
    show some (Value.int .u8 c) = some (.int .u8 ((UInt8.ofNat c.toNat).toNat : Int))
    rw [e])
  exact h

theorem cons_bytes (c : UInt8) (l : List UInt8) : (⟨#[c]⟩ : ByteArray) ++ ⟨l.toArray⟩ = ⟨(c :: l).toArray⟩ := ByteArray.mk_append_mk [c] l
def strLen : Value → Nat | .string s => s.size | _ => 0
theorem digC_mod (x : Nat) : digC (48 + (x : Int) % 10) = UInt8.ofNat (48 + x % 10) := by unfold digC; congr 1
theorem dec_step (u : Nat) (h : ¬ u < 10) : Lib.decDigits u = Lib.decDigits (u / 10) ++ [UInt8.ofNat (48 + u % 10)] := by
  rw [Lib.decDigits, dif_neg h]
theorem dec_one (u : Nat) (h : u < 10) : Lib.decDigits u = [UInt8.ofNat (48 + u)] := by
  rw [Lib.decDigits, dif_pos h]

set_option maxRecDepth 100000 in
set_option maxHeartbeats 2000000 in
theorem ref_Digits (n : Int) (h0 : 0 ≤ n) (h1 : n ≤ 1099511627776) (w : World) :
    Calls Tryd.prog 54 #[.int .i64 n] w fun e w' => e = .returned (.string (itoaB n)) ∧ Ext w w' := by
  obtain ⟨u, rfl⟩ : ∃ u : Nat, n = u := ⟨n.toNat, by omega⟩
  have hlen := itoa_len u (by omega) h1
  have Hit := Lib.hid (Lib.itoa_nonneg u)
  rw [Hit.out] at hlen
  go_enter Tryd.func54, Tryd.ntmps54
  go_wp2_with fail
  go_loopw [0, 3] (fun i s wr => ∃ (x : Nat) (l : List UInt8), x ≤ u ∧ i = .int .i64 x ∧ s = .string ⟨l.toArray⟩ ∧ Lib.decDigits u = Lib.decDigits x ++ l ∧ Ext w wr) (fun i _ _ => (intOf i).toNat)
  case atStart => exact ⟨u, [], Nat.le_refl _, rfl, rfl, by simp, Keeps.refl _ _⟩
  case round =>
    obtain ⟨x, l, hx, rfl, rfl, hd, hxx⟩ := hrel
    have hl : l.length ≤ 1000 := by rw [hd] at hlen; simp at hlen; omega
    have Hd := Lib.hid hd
    have Hxx := Lib.hid hxx
    clear hd hxx
    by_cases hlt : 9 < x
    · have hcv := conv_byte (48 + (x : Int) % 10) (by omega) (by omega)
      go_wp2_with fail
      go_roundw
      case rel => exact ⟨x / 10, UInt8.ofNat (48 + x % 10) :: l, by omega, by go_num, by rw [cons_bytes, digC_mod x], by rw [Hd.out, dec_step x (by omega)]; simp, Keeps.alloc Hxx.out _⟩
      case measure => simp [intOf]; omega
    · have hcv := conv_byte (48 + (x : Int)) (by omega) (by omega)
      go_wp2_with fail
      go_ret
      refine ⟨?_, Keeps.alloc Hxx.out _⟩
      show Ending.returned (.string (⟨#[digC (48 + (x : Int))]⟩ ++ ⟨l.toArray⟩)) = _
      rw [cons_bytes, show digC (48 + (x : Int)) = UInt8.ofNat (48 + x) by unfold digC; congr 1]
      unfold itoaB
      rw [Hit.out, Hd.out, dec_one x (by omega)]
      rfl


theorem zeroB_eq {s : ByteArray} (h : 1 < s.size) : zeroB s = ((s[0].toNat : Int) == 48) := by
  unfold zeroB
  have h0 : 0 < s.data.toList.length := by simp; show 0 < s.size; omega
  have e : s.data.toList.head? = some s[0] := by
    rw [List.head?_eq_getElem?, List.getElem?_eq_getElem h0]; rfl
  rw [e, show decide (1 < s.size) = true by simpa using h, Bool.true_and, show (48 : Int) = ((48 : UInt8).toNat : Int) from rfl, byte_eq]
  rfl
theorem zeroB_no {s : ByteArray} (h : ¬ 1 < s.size) : zeroB s = false := by
  unfold zeroB; rw [show decide (1 < s.size) = false by simpa using h]; rfl

set_option maxRecDepth 100000 in
set_option maxHeartbeats 2000000 in
theorem ref_Read (s : ByteArray) (w : World) (hs : s.size ≤ maxLen) :
    Calls Tryd.prog 57 #[.string s] w fun e w' => e = .returned (.int .i64 (readI s)) ∧ w = w' := by
  unfold maxLen at hs
  by_cases h1 : s.size < 1
  · have Hf := Lib.hid (digOk_no1 h1)
    go_enter Tryd.func57, Tryd.ntmps57
    go_wp2_with fail
    go_ret
    exact ⟨by unfold readI; rw [Hf.out]; rfl, rfl⟩
  by_cases h2 : 13 < s.size
  · have Hf := Lib.hid (digOk_no2 h2)
    go_enter Tryd.func57, Tryd.ntmps57
    go_wp2_with fail
    go_ret
    exact ⟨by unfold readI; rw [Hf.out]; rfl, rfl⟩
  cases hz : zeroB s
  · have Hz := Lib.hid hz
    by_cases h9 : 1 < s.size
    · have hz0 : ((s[0].toNat : Int) == 48) = false := by rw [← zeroB_eq h9]; exact hz
      clear hz
      go_enter Tryd.func57, Tryd.ntmps57
      go_wp2_with fail
      go_loop [3, 4] (fun n i => ∃ k : Nat, k ≤ s.size ∧ i = .int .i64 k ∧ n = .int .i64 (digV (s.data.toList.take k) : Int) ∧ digAt s k) (fun _ i => s.size - (intOf i).toNat)
      case atStart => exact ⟨0, Nat.zero_le _, rfl, rfl, digAt_zero s⟩
      case round =>
        obtain ⟨k, hk, rfl, rfl, hat⟩ := hrel
        have hlt0 := digAt_lt hat (by omega)
        have Hat := Lib.hid hat
        clear hat
        obtain ⟨V, hV⟩ : ∃ V, V = digV (s.data.toList.take k) := ⟨_, rfl⟩
        rw [← hV] at hlt0 ⊢
        have HV := Lib.hid hV
        clear hV
        by_cases hlt : k < s.size
        · by_cases h3 : s[k].toNat < 48
          · have Hf := Lib.hid (digAt_no hlt (.inl h3))
            have h3' : (s[k].toNat : Int) < 48 := by omega
            go_wp2_with fail
            go_ret
            exact ⟨by unfold readI; rw [Hf.out]; rfl, rfl⟩
          by_cases h4 : 57 < s[k].toNat
          · have Hf := Lib.hid (digAt_no hlt (.inr h4))
            go_wp2_with fail
            go_ret
            exact ⟨by unfold readI; rw [Hf.out]; rfl, rfl⟩
          have Hst := Lib.hid (digAt_step hlt Hat.out (by omega) (by omega))
          have Hnx := Lib.hid (show digV (s.data.toList.take (k + 1)) = V * 10 + (s[k].toNat - 48) by rw [HV.out]; exact digAt_next hlt)
          go_wp2_with fail
          go_round
          case rel => exact ⟨k + 1, by omega, by go_num, by rw [Hnx.out]; go_num, Hst.out⟩
          case measure => simp [intOf]; omega
        · obtain rfl : k = s.size := by omega
          have Hf := Lib.hid (digAt_done Hat.out (by omega) (by omega))
          have Hv := Lib.hid (show digV s.data.toList = V by rw [HV.out, take_all s _ (Nat.le_refl _)])
          go_wp2_with fail
          go_ret
          exact ⟨by unfold readI; rw [Hf.out, Hv.out, Hz.out]; rfl, rfl⟩
    · clear hz
      go_enter Tryd.func57, Tryd.ntmps57
      go_wp2_with fail
      go_loop [3, 4] (fun n i => ∃ k : Nat, k ≤ s.size ∧ i = .int .i64 k ∧ n = .int .i64 (digV (s.data.toList.take k) : Int) ∧ digAt s k) (fun _ i => s.size - (intOf i).toNat)
      case atStart => exact ⟨0, Nat.zero_le _, rfl, rfl, digAt_zero s⟩
      case round =>
        obtain ⟨k, hk, rfl, rfl, hat⟩ := hrel
        have hlt0 := digAt_lt hat (by omega)
        have Hat := Lib.hid hat
        clear hat
        obtain ⟨V, hV⟩ : ∃ V, V = digV (s.data.toList.take k) := ⟨_, rfl⟩
        rw [← hV] at hlt0 ⊢
        have HV := Lib.hid hV
        clear hV
        by_cases hlt : k < s.size
        · by_cases h3 : s[k].toNat < 48
          · have Hf := Lib.hid (digAt_no hlt (.inl h3))
            have h3' : (s[k].toNat : Int) < 48 := by omega
            go_wp2_with fail
            go_ret
            exact ⟨by unfold readI; rw [Hf.out]; rfl, rfl⟩
          by_cases h4 : 57 < s[k].toNat
          · have Hf := Lib.hid (digAt_no hlt (.inr h4))
            go_wp2_with fail
            go_ret
            exact ⟨by unfold readI; rw [Hf.out]; rfl, rfl⟩
          have Hst := Lib.hid (digAt_step hlt Hat.out (by omega) (by omega))
          have Hnx := Lib.hid (show digV (s.data.toList.take (k + 1)) = V * 10 + (s[k].toNat - 48) by rw [HV.out]; exact digAt_next hlt)
          go_wp2_with fail
          go_round
          case rel => exact ⟨k + 1, by omega, by go_num, by rw [Hnx.out]; go_num, Hst.out⟩
          case measure => simp [intOf]; omega
        · obtain rfl : k = s.size := by omega
          have Hf := Lib.hid (digAt_done Hat.out (by omega) (by omega))
          have Hv := Lib.hid (show digV s.data.toList = V by rw [HV.out, take_all s _ (Nat.le_refl _)])
          go_wp2_with fail
          go_ret
          exact ⟨by unfold readI; rw [Hf.out, Hv.out, Hz.out]; rfl, rfl⟩
  · have h9 : 1 < s.size := by
      by_cases h : 1 < s.size
      · exact h
      · rw [zeroB_no h] at hz; cases hz
    have hz0 : ((s[0].toNat : Int) == 48) = true := by rw [← zeroB_eq h9]; exact hz
    have Hz := Lib.hid hz
    clear hz
    go_enter Tryd.func57, Tryd.ntmps57
    go_wp2_with fail
    go_ret
    exact ⟨by unfold readI; rw [Hz.out]; simp, rfl⟩
end Go.Proofs.YtihdeidaekheoaaDoor
