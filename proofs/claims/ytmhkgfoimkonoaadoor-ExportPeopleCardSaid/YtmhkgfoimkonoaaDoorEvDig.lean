/-
  What is proved here: the program's digits, the document's Read and Digits return what the plain functions say. Conditions: texts that are texts; a number that is told is not below 0, and at most 2^40.
  the document's Read and Digits return what the plain functions say. Conditions: texts that are texts; a number that is told is not below 0, and at most 2^40.
-/
import Derived.Test.YtmhkgfoimkonoaaDoorEvFmtP
namespace Go.Proofs.YtmhkgfoimkonoaaDoor
open Go Go.RowKit Go.Proofs
attribute [local go_sem ↓] Go.wp_at_zero Go.wp_at_succ

def digitB (c : UInt8) : Bool := decide (48 ≤ c.toNat) && decide (c.toNat ≤ 57)
def digOk (s : ByteArray) : Bool := decide (1 ≤ s.size) && decide (s.size ≤ 13) && s.data.toList.all digitB
def zeroB (s : ByteArray) : Bool := decide (1 < s.size) && (s.data.toList.head? == some 48)
def digN (s : ByteArray) : Int := if digOk s then (digV s.data.toList : Int) else 0
def readI (s : ByteArray) : Int := if digOk s && !zeroB s then (digV s.data.toList : Int) else -1
theorem digV_snoc (l : List UInt8) (c : UInt8) : digV (l ++ [c]) = digV l * 10 + (c.toNat - 48) := by
  unfold digV; rw [List.foldl_append]; rfl
theorem digV_lt (l : List UInt8) (h : l.all digitB = true) : digV l < 10 ^ l.length := by
  suffices ∀ (m : List UInt8) (a b : Nat), m.all digitB = true → a < 10 ^ b → m.foldl (fun a c => a * 10 + (c.toNat - 48)) a < 10 ^ (b + m.length) by
    have h9 := this l 0 0 h (by simp)
    rw [Nat.zero_add] at h9
    exact h9
  intro m
  induction m with
  | nil => intro a b _ h; exact h
  | cons c m ih =>
    intro a b h1 h2
    rw [List.all_cons, Bool.and_eq_true] at h1
    have h3 := h1.1
    unfold digitB at h3
    simp only [Bool.and_eq_true, decide_eq_true_eq] at h3
    rw [List.foldl_cons, List.length_cons, show b + (m.length + 1) = (b + 1) + m.length by omega]
    refine ih _ _ h1.2 ?_
    rw [Nat.pow_succ]
    omega
def digAt (s : ByteArray) (k : Nat) : Prop := (s.data.toList.take k).all digitB = true
theorem digAt_zero (s : ByteArray) : digAt s 0 := by simp [digAt]
theorem digAt_step {s : ByteArray} {k : Nat} (hk : k < s.size) (h : digAt s k) (h1 : 48 ≤ s[k].toNat) (h2 : s[k].toNat ≤ 57) : digAt s (k + 1) := by
  unfold digAt at *
  rw [take_snoc s k hk, List.all_append, h]
  simp [digitB, h1, h2]
theorem digAt_no {s : ByteArray} {k : Nat} (hk : k < s.size) (h : s[k].toNat < 48 ∨ 57 < s[k].toNat) : digOk s = false := by
  unfold digOk
  have : s.data.toList.all digitB = false := by
    rw [Bool.eq_false_iff]
    intro h9
    have := List.all_eq_true.1 h9 s[k] (by exact List.getElem_mem (by simpa using hk))
    unfold digitB at this
    simp only [Bool.and_eq_true, decide_eq_true_eq] at this
    omega
  rw [this, Bool.and_false]
theorem digAt_done {s : ByteArray} (h : digAt s s.size) (h1 : 1 ≤ s.size) (h2 : s.size ≤ 13) : digOk s = true := by
  unfold digOk
  unfold digAt at h
  rw [take_all s _ (Nat.le_refl _)] at h
  rw [h]; simp [h1, h2]
theorem digAt_lt {s : ByteArray} {k : Nat} (h : digAt s k) (hk : k ≤ 13) : digV (s.data.toList.take k) < 10000000000000 := by
  have h1 := digV_lt _ h
  have h2 : (s.data.toList.take k).length ≤ 13 := Nat.le_trans (List.length_take_le _ _) hk
  have h3 := Nat.pow_le_pow_right (n := 10) (by omega) h2
  have h4 : (10 : Nat) ^ 13 = 10000000000000 := by decide
  omega
theorem digAt_next {s : ByteArray} {k : Nat} (hk : k < s.size) : digV (s.data.toList.take (k + 1)) = digV (s.data.toList.take k) * 10 + (s[k].toNat - 48) := by
  rw [take_snoc s k hk, digV_snoc]
theorem digOk_size {s : ByteArray} (h : digOk s = true) : 1 ≤ s.size ∧ s.size ≤ 13 := by
  unfold digOk at h
  simp only [Bool.and_eq_true, decide_eq_true_eq] at h
  exact h.1
theorem digOk_no1 {s : ByteArray} (h : s.size < 1) : digOk s = false := by
  unfold digOk; rw [show decide (1 ≤ s.size) = false from decide_eq_false (by omega)]; rfl
theorem digOk_no2 {s : ByteArray} (h : 13 < s.size) : digOk s = false := by
  unfold digOk; rw [show decide (s.size ≤ 13) = false from decide_eq_false (by omega)]; simp

set_option maxRecDepth 100000 in
set_option maxHeartbeats 2000000 in
theorem ev_digits (s : ByteArray) (w : World) (hs : s.size ≤ maxLen) :
    Calls Tryd.prog 67 #[.string s] w fun e w' => e = .returned (.tuple #[.int .i64 (digN s), .bool (digOk s)]) ∧ w = w' := by
  unfold maxLen at hs
  by_cases h1 : s.size < 1
  · have Hf := Lib.hid (digOk_no1 h1)
    go_enter Tryd.func67, Tryd.ntmps67
    go_wp2_with fail
    go_ret2
    exact ⟨by unfold digN; rw [Hf.out]; rfl, rfl⟩
  by_cases h2 : 13 < s.size
  · have Hf := Lib.hid (digOk_no2 h2)
    go_enter Tryd.func67, Tryd.ntmps67
    go_wp2_with fail
    go_ret2
    exact ⟨by unfold digN; rw [Hf.out]; rfl, rfl⟩
  go_enter Tryd.func67, Tryd.ntmps67
  go_wp2_with fail
  go_loop [4, 16] (fun n i => ∃ k : Nat, k ≤ s.size ∧ i = .int .i64 k ∧ n = .int .i64 (digV (s.data.toList.take k) : Int) ∧ digAt s k) (fun _ i => s.size - (intOf i).toNat)
  case atStart => exact ⟨0, Nat.zero_le _, rfl, rfl, digAt_zero s⟩
  case round =>
    obtain ⟨k, hk, rfl, rfl, hat⟩ := hrel
    have hlt0 := digAt_lt hat (by omega)
    have Hat := Lib.hid hat
    clear hat
    obtain ⟨V, hV⟩ : ∃ V, V = digV (s.data.toList.take k) := ⟨_, rfl⟩
    rw [← hV] at hlt0 ⊢
    have HV := Lib.hid hV
    clear hV
    by_cases hlt : k < s.size
    · by_cases h3 : s[k].toNat < 48
      · have Hf := Lib.hid (digAt_no hlt (.inl h3))
        have h3' : (s[k].toNat : Int) < 48 := by omega
        go_wp2_with fail
        go_ret2
        exact ⟨by unfold digN; rw [Hf.out]; rfl, rfl⟩
      by_cases h4 : 57 < s[k].toNat
      · have Hf := Lib.hid (digAt_no hlt (.inr h4))
        go_wp2_with fail
        go_ret2
        exact ⟨by unfold digN; rw [Hf.out]; rfl, rfl⟩
      have Hst := Lib.hid (digAt_step hlt Hat.out (by omega) (by omega))
      have Hnx := Lib.hid (show digV (s.data.toList.take (k + 1)) = V * 10 + (s[k].toNat - 48) by rw [HV.out]; exact digAt_next hlt)
      go_wp2_with fail
      go_round
      case rel => exact ⟨k + 1, by omega, by go_num, by rw [Hnx.out]; go_num, Hst.out⟩
      case measure => simp [intOf]; omega
    · obtain rfl : k = s.size := by omega
      have Hf := Lib.hid (digAt_done Hat.out (by omega) (by omega))
      have Hv := Lib.hid (show digV s.data.toList = V by rw [HV.out, take_all s _ (Nat.le_refl _)])
      go_wp2_with fail
      go_ret2
      exact ⟨by unfold digN; rw [Hf.out, Hv.out]; rfl, rfl⟩
end Go.Proofs.YtmhkgfoimkonoaaDoor
namespace Go.Proofs.YtmhkgfoimkonoaaDoor
open Go Go.RowKit Go.Proofs
attribute [local go_sem ↓] Go.wp_at_zero Go.wp_at_succ

def digC (c : Int) : UInt8 := UInt8.ofNat c.toNat
/-- 'string([]byte{c})', the bytes being a new block. -/
theorem conv_byte (c : Int) (h0 : 0 ≤ c) (h1 : c < 256) (w : World) :
    (convert 47 9 (.slice (some ⟨w.heap.size, 0, none⟩) 1 1)).run Tryd.prog (w.alloc (.cells #[.int .u8 c] 5)) = .ok (.string ⟨#[digC c]⟩) (w.alloc (.cells #[.int .u8 c] 5)) := by
  have h := run_convert_bytes_back (P := Tryd.prog) (w.alloc (.cells #[.int .u8 c] 5)) 47 9 5 ⟨w.heap.size, 0, none⟩ 1 [UInt8.ofNat c.toNat] Tryd.underlying47 Tryd.underlying5 Tryd.underlying9 (fun j hj => by
    have : j = 0 := by simpa using hj
    subst this
    rw [ad_add]
    refine blk_cell (blk_new w _) 0 ?_
    have e : ((UInt8.ofNat c.toNat).toNat : Int) = c := by
      rw [UInt8.toNat_ofNat']; omega
    show some (Value.int .u8 c) = some (.int .u8 ((UInt8.ofNat c.toNat).toNat : Int))
    rw [e])
  exact h

theorem cons_bytes (c : UInt8) (l : List UInt8) : (⟨#[c]⟩ : ByteArray) ++ ⟨l.toArray⟩ = ⟨(c :: l).toArray⟩ := ByteArray.mk_append_mk [c] l
def strLen : Value → Nat | .string s => s.size | _ => 0
theorem digC_mod (x : Nat) : digC (48 + (x : Int) % 10) = UInt8.ofNat (48 + x % 10) := by unfold digC; congr 1
theorem dec_step (u : Nat) (h : ¬ u < 10) : Lib.decDigits u = Lib.decDigits (u / 10) ++ [UInt8.ofNat (48 + u % 10)] := by
  rw [Lib.decDigits, dif_neg h]
theorem dec_one (u : Nat) (h : u < 10) : Lib.decDigits u = [UInt8.ofNat (48 + u)] := by
  rw [Lib.decDigits, dif_pos h]

set_option maxRecDepth 100000 in
set_option maxHeartbeats 2000000 in
theorem ref_Digits (n : Int) (h0 : 0 ≤ n) (h1 : n ≤ 1099511627776) (w : World) :
    Calls Tryd.prog 75 #[.int .i64 n] w fun e w' => e = .returned (.string (itoaB n)) ∧ Ext w w' := by
  obtain ⟨u, rfl⟩ : ∃ u : Nat, n = u := ⟨n.toNat, by omega⟩
  have hlen := itoa_len u (by omega) h1
  have Hit := Lib.hid (Lib.itoa_nonneg u)
  rw [Hit.out] at hlen
  go_enter Tryd.func75, Tryd.ntmps75
  go_wp2_with fail
  go_loopw [0, 3] (fun i s wr => ∃ (x : Nat) (l : List UInt8), x ≤ u ∧ i = .int .i64 x ∧ s = .string ⟨l.toArray⟩ ∧ Lib.decDigits u = Lib.decDigits x ++ l ∧ Ext w wr) (fun i _ _ => (intOf i).toNat)
  case atStart => exact ⟨u, [], Nat.le_refl _, rfl, rfl, by simp, Keeps.refl _ _⟩
  case round =>
    obtain ⟨x, l, hx, rfl, rfl, hd, hxx⟩ := hrel
    have hl : l.length ≤ 1000 := by rw [hd] at hlen; simp at hlen; omega
    have Hd := Lib.hid hd
    have Hxx := Lib.hid hxx
    clear hd hxx
    by_cases hlt : 9 < x
    · have hcv := conv_byte (48 + (x : Int) % 10) (by omega) (by omega)
      go_wp2_with fail
      go_roundw
      case rel => exact ⟨x / 10, UInt8.ofNat (48 + x % 10) :: l, by omega, by go_num, by rw [cons_bytes, digC_mod x], by rw [Hd.out, dec_step x (by omega)]; simp, Keeps.alloc Hxx.out _⟩
      case measure => simp [intOf]; omega
    · have hcv := conv_byte (48 + (x : Int)) (by omega) (by omega)
      go_wp2_with fail
      go_ret
      refine ⟨?_, Keeps.alloc Hxx.out _⟩
      show Ending.returned (.string (⟨#[digC (48 + (x : Int))]⟩ ++ ⟨l.toArray⟩)) = _
      rw [cons_bytes, show digC (48 + (x : Int)) = UInt8.ofNat (48 + x) by unfold digC; congr 1]
      unfold itoaB
      rw [Hit.out, Hd.out, dec_one x (by omega)]
      rfl


theorem zeroB_eq {s : ByteArray} (h : 1 < s.size) : zeroB s = ((s[0].toNat : Int) == 48) := by
  unfold zeroB
  have h0 : 0 < s.data.toList.length := by simp; show 0 < s.size; omega
  have e : s.data.toList.head? = some s[0] := by
    rw [List.head?_eq_getElem?, List.getElem?_eq_getElem h0]; rfl
  rw [e, show decide (1 < s.size) = true by simpa using h, Bool.true_and, show (48 : Int) = ((48 : UInt8).toNat : Int) from rfl, byte_eq]
  rfl
theorem zeroB_no {s : ByteArray} (h : ¬ 1 < s.size) : zeroB s = false := by
  unfold zeroB; rw [show decide (1 < s.size) = false by simpa using h]; rfl

set_option maxRecDepth 100000 in
set_option maxHeartbeats 2000000 in
theorem ref_Read (s : ByteArray) (w : World) (hs : s.size ≤ maxLen) :
    Calls Tryd.prog 73 #[.string s] w fun e w' => e = .returned (.int .i64 (readI s)) ∧ w = w' := by
  unfold maxLen at hs
  by_cases h1 : s.size < 1
  · have Hf := Lib.hid (digOk_no1 h1)
    go_enter Tryd.func73, Tryd.ntmps73
    go_wp2_with fail
    go_ret
    exact ⟨by unfold readI; rw [Hf.out]; rfl, rfl⟩
  by_cases h2 : 13 < s.size
  · have Hf := Lib.hid (digOk_no2 h2)
    go_enter Tryd.func73, Tryd.ntmps73
    go_wp2_with fail
    go_ret
    exact ⟨by unfold readI; rw [Hf.out]; rfl, rfl⟩
  cases hz : zeroB s
  · have Hz := Lib.hid hz
    by_cases h9 : 1 < s.size
    · have hz0 : ((s[0].toNat : Int) == 48) = false := by rw [← zeroB_eq h9]; exact hz
      clear hz
      go_enter Tryd.func73, Tryd.ntmps73
      go_wp2_with fail
      go_loop [3, 4] (fun n i => ∃ k : Nat, k ≤ s.size ∧ i = .int .i64 k ∧ n = .int .i64 (digV (s.data.toList.take k) : Int) ∧ digAt s k) (fun _ i => s.size - (intOf i).toNat)
      case atStart => exact ⟨0, Nat.zero_le _, rfl, rfl, digAt_zero s⟩
      case round =>
        obtain ⟨k, hk, rfl, rfl, hat⟩ := hrel
        have hlt0 := digAt_lt hat (by omega)
        have Hat := Lib.hid hat
        clear hat
        obtain ⟨V, hV⟩ : ∃ V, V = digV (s.data.toList.take k) := ⟨_, rfl⟩
        rw [← hV] at hlt0 ⊢
        have HV := Lib.hid hV
        clear hV
        by_cases hlt : k < s.size
        · by_cases h3 : s[k].toNat < 48
          · have Hf := Lib.hid (digAt_no hlt (.inl h3))
            have h3' : (s[k].toNat : Int) < 48 := by omega
            go_wp2_with fail
            go_ret
            exact ⟨by unfold readI; rw [Hf.out]; rfl, rfl⟩
          by_cases h4 : 57 < s[k].toNat
          · have Hf := Lib.hid (digAt_no hlt (.inr h4))
            go_wp2_with fail
            go_ret
            exact ⟨by unfold readI; rw [Hf.out]; rfl, rfl⟩
          have Hst := Lib.hid (digAt_step hlt Hat.out (by omega) (by omega))
          have Hnx := Lib.hid (show digV (s.data.toList.take (k + 1)) = V * 10 + (s[k].toNat - 48) by rw [HV.out]; exact digAt_next hlt)
          go_wp2_with fail
          go_round
          case rel => exact ⟨k + 1, by omega, by go_num, by rw [Hnx.out]; go_num, Hst.out⟩
          case measure => simp [intOf]; omega
        · obtain rfl : k = s.size := by omega
          have Hf := Lib.hid (digAt_done Hat.out (by omega) (by omega))
          have Hv := Lib.hid (show digV s.data.toList = V by rw [HV.out, take_all s _ (Nat.le_refl _)])
          go_wp2_with fail
          go_ret
          exact ⟨by unfold readI; rw [Hf.out, Hv.out, Hz.out]; rfl, rfl⟩
    · clear hz
      go_enter Tryd.func73, Tryd.ntmps73
      go_wp2_with fail
      go_loop [3, 4] (fun n i => ∃ k : Nat, k ≤ s.size ∧ i = .int .i64 k ∧ n = .int .i64 (digV (s.data.toList.take k) : Int) ∧ digAt s k) (fun _ i => s.size - (intOf i).toNat)
      case atStart => exact ⟨0, Nat.zero_le _, rfl, rfl, digAt_zero s⟩
      case round =>
        obtain ⟨k, hk, rfl, rfl, hat⟩ := hrel
        have hlt0 := digAt_lt hat (by omega)
        have Hat := Lib.hid hat
        clear hat
        obtain ⟨V, hV⟩ : ∃ V, V = digV (s.data.toList.take k) := ⟨_, rfl⟩
        rw [← hV] at hlt0 ⊢
        have HV := Lib.hid hV
        clear hV
        by_cases hlt : k < s.size
        · by_cases h3 : s[k].toNat < 48
          · have Hf := Lib.hid (digAt_no hlt (.inl h3))
            have h3' : (s[k].toNat : Int) < 48 := by omega
            go_wp2_with fail
            go_ret
            exact ⟨by unfold readI; rw [Hf.out]; rfl, rfl⟩
          by_cases h4 : 57 < s[k].toNat
          · have Hf := Lib.hid (digAt_no hlt (.inr h4))
            go_wp2_with fail
            go_ret
            exact ⟨by unfold readI; rw [Hf.out]; rfl, rfl⟩
          have Hst := Lib.hid (digAt_step hlt Hat.out (by omega) (by omega))
          have Hnx := Lib.hid (show digV (s.data.toList.take (k + 1)) = V * 10 + (s[k].toNat - 48) by rw [HV.out]; exact digAt_next hlt)
          go_wp2_with fail
          go_round
          case rel => exact ⟨k + 1, by omega, by go_num, by rw [Hnx.out]; go_num, Hst.out⟩
          case measure => simp [intOf]; omega
        · obtain rfl : k = s.size := by omega
          have Hf := Lib.hid (digAt_done Hat.out (by omega) (by omega))
          have Hv := Lib.hid (show digV s.data.toList = V by rw [HV.out, take_all s _ (Nat.le_refl _)])
          go_wp2_with fail
          go_ret
          exact ⟨by unfold readI; rw [Hf.out, Hv.out, Hz.out]; rfl, rfl⟩
  · have h9 : 1 < s.size := by
      by_cases h : 1 < s.size
      · exact h
      · rw [zeroB_no h] at hz; cases hz
    have hz0 : ((s[0].toNat : Int) == 48) = true := by rw [← zeroB_eq h9]; exact hz
    have Hz := Lib.hid hz
    clear hz
    go_enter Tryd.func73, Tryd.ntmps73
    go_wp2_with fail
    go_ret
    exact ⟨by unfold readI; rw [Hz.out]; simp, rfl⟩
end Go.Proofs.YtmhkgfoimkonoaaDoor
