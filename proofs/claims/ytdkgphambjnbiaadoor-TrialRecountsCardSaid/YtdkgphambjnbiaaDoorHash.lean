/-
  What is proved here: draw.Hash and the document's Hash return hash of any seed and any words, and leave the world as it was. Conditions: at most a million words; each is no longer than a text can be.
-/
import Derived.Test.YtdkgphambjnbiaaDoorProg
import Derived.Test.YtdkgphambjnbiaaDoorBase
namespace Go.Proofs.YtdkgphambjnbiaaDoor
open Go Go.RowKit Go.Proofs

theorem fold_word (s : ByteArray) (x : Int) (k : Nat) (h : k < s.size) :
    (s.data.toList.take (k + 1)).foldl hbyte x = hstep ((s.data.toList.take k).foldl hbyte x) (IntKind.u64.wrap (s[k].toNat : Int)) := by
  rw [take_snoc s k h, List.foldl_append]; rfl
theorem fold_words (l : List ByteArray) (x : Int) (k : Nat) (s : ByteArray) (h : l[k]? = some s) : (l.take (k + 1)).foldl hword x = hword ((l.take k).foldl hword x) s := by
  rw [List.take_add_one, h, List.foldl_append]; rfl

set_option maxHeartbeats 1000000 in
theorem draw_Hash (seed : Int) (A : Option Addr) (n c : Nat) (l : List ByteArray) (ok : Nat → Prop) (w : World) (hr : Sl strR ok w A n l) (hn : n ≤ 1000000) (hl : ∀ s ∈ l, s.size ≤ maxLen) :
    Calls Tryd.prog 31 #[.int .u64 seed, .slice A n c] w fun e w' => e = .returned (.int .u64 (hash seed l)) ∧ w = w' := by
  have Hln := Lib.hid hr.1
  go_enter Tryd.func31, Tryd.ntmps31
  go_wp2
  go_loop [5, 7, 13] (fun h _ i => ∃ (k : Nat), k ≤ n ∧ i = .int .i64 k ∧ h = .int .u64 ((l.take k).foldl hword (hstart seed))) (fun _ _ i => n - (intOf i).toNat)
  case atStart => exact ⟨0, Nat.zero_le _, rfl, rfl⟩
  case round =>
    obtain ⟨k, hk, rfl, rfl⟩ := hrel
    by_cases hlt : k < n
    · obtain ⟨b, o, s, rfl, hb, ho, hs, hc⟩ := hr.str hlt
      have hsz := hl s (List.mem_of_getElem? hs)
      unfold maxLen at hsz
      have Hs := Lib.hid hs; clear hs
      have Hw := Lib.hid (fold_words l (hstart seed) k s Hs.out)
      generalize hx : (l.take k).foldl hword (hstart seed) = x at Hw
      clear hx
      go_wp2
      go_loop [5, 8, 19] (fun h _ i => ∃ (j : Nat), j ≤ s.size ∧ i = .int .i64 j ∧ h = .int .u64 ((s.data.toList.take j).foldl hbyte x)) (fun _ _ i => s.size - (intOf i).toNat)
      case atStart => exact ⟨0, Nat.zero_le _, rfl, rfl⟩
      case round =>
        obtain ⟨j, hj, rfl, rfl⟩ := hrel
        by_cases hlj : j < s.size
        · have Hf := Lib.hid (fold_word s x j hlj)
          go_wp2
          go_round
          case rel => exact ⟨j + 1, by omega, by go_num, by rw [Hf.out, hstep_def]⟩
          case measure => simp [intOf]; omega
        · have Ht := Lib.hid (take_all s j (by omega))
          go_wp2
          go_round
          case rel => exact ⟨k + 1, by omega, by go_num, by rw [Hw.out, Ht.out, hword_def, hstep_def _ 256]⟩
          case measure => simp [intOf]; omega
    · obtain rfl : k = n := by omega
      go_wp2
      go_ret
      exact ⟨by rw [hash_def, hend_def, List.take_of_length_le (Nat.le_of_eq Hln.out)]; rfl, rfl⟩

set_option maxHeartbeats 1000000 in
theorem ref_Hash (seed : Int) (A : Option Addr) (n c : Nat) (l : List ByteArray) (ok : Nat → Prop) (w : World) (hr : Sl strR ok w A n l) (hn : n ≤ 1000000) (hl : ∀ s ∈ l, s.size < maxLen) :
    Calls Tryd.prog 33 #[.int .u64 seed, .slice A n c] w fun e w' => e = .returned (.int .u64 (hash seed l)) ∧ w = w' := by
  have Hln := Lib.hid hr.1
  go_enter Tryd.func33, Tryd.ntmps33
  go_wp2
  go_loop [5, 6, 7, 8] (fun h i _ _ => ∃ (k : Nat), k ≤ n ∧ i = .int .i64 k ∧ h = .int .u64 ((l.take k).foldl hword (hstart seed))) (fun _ i _ _ => n - (intOf i).toNat)
  case atStart => exact ⟨0, Nat.zero_le _, rfl, rfl⟩
  case round =>
    obtain ⟨k, hk, rfl, rfl⟩ := hrel
    by_cases hlt : k < n
    · obtain ⟨b, o, s, rfl, hb, ho, hs, hc⟩ := hr.str hlt
      have hsz := hl s (List.mem_of_getElem? hs)
      unfold maxLen at hsz
      have Hs := Lib.hid hs; clear hs
      have Hw := Lib.hid (fold_words l (hstart seed) k s Hs.out)
      generalize hx : (l.take k).foldl hword (hstart seed) = x at Hw
      clear hx
      go_wp2
      go_loop [5, 7, 8] (fun h i _ => ∃ (j : Nat), j ≤ s.size + 1 ∧ i = .int .i64 j ∧ h = .int .u64 (if j ≤ s.size then (s.data.toList.take j).foldl hbyte x else hword x s)) (fun _ i _ => s.size + 1 - (intOf i).toNat)
      case atStart => exact ⟨0, Nat.zero_le _, rfl, by simp⟩
      case round =>
        obtain ⟨j, hj, rfl, rfl⟩ := hrel
        by_cases hle : j ≤ s.size
        · rw [if_pos hle]
          by_cases hlj : j < s.size
          · have Hf := Lib.hid (fold_word s x j hlj)
            go_wp2
            go_round
            case rel => exact ⟨j + 1, by omega, by go_num, by rw [if_pos (by omega), Hf.out, hstep_def]⟩
            case measure => simp [intOf]; omega
          · have Ht := Lib.hid (take_all s j (by omega))
            go_wp2
            go_round
            case rel => exact ⟨j + 1, by omega, by go_num, by rw [if_neg (by omega), hword_def, hstep_def _ 256, Ht.out]⟩
            case measure => simp [intOf]; omega
        · rw [if_neg hle]
          go_wp2
          go_round
          case rel => exact ⟨k + 1, by omega, by go_num, by rw [Hw.out]⟩
          case measure => simp [intOf]; omega
    · obtain rfl : k = n := by omega
      go_wp2
      go_ret
      exact ⟨by rw [hash_def, hend_def, List.take_of_length_le (Nat.le_of_eq Hln.out)]; rfl, rfl⟩
end Go.Proofs.YtdkgphambjnbiaaDoor
