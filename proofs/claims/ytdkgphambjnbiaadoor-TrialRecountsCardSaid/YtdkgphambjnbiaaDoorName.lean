/-
  What is proved here: event.Name and the document's Name return nameB of any text, and leave the world as it was. Condition: the text is no longer than a text can be.
-/
import Derived.Test.YtdkgphambjnbiaaDoorProg
import Derived.Test.YtdkgphambjnbiaaDoorBase
namespace Go.Proofs.YtdkgphambjnbiaaDoor
open Go Go.RowKit Go.Proofs

set_option maxHeartbeats 1000000 in
theorem event_Name (s : ByteArray) (w : World) (hs : s.size ≤ maxLen) :
    Calls Tryd.prog 34 #[.string s] w fun e w' => e = .returned (.bool (nameB s)) ∧ w = w' := by
  unfold maxLen at hs
  by_cases h1 : s.size < 1
  · have Hf := Lib.hid (nameB_short h1)
    go_enter Tryd.func34, Tryd.ntmps34
    go_wp2
    go_ret
    exact ⟨by rw [Hf.out]; rfl, rfl⟩
  by_cases h2 : 24 < s.size
  · have Hf := Lib.hid (nameB_long h2)
    go_enter Tryd.func34, Tryd.ntmps34
    go_wp2
    go_ret
    exact ⟨by rw [Hf.out]; rfl, rfl⟩
  have Hf := Lib.hid (nameB_mid h1 h2)
  go_enter Tryd.func34, Tryd.ntmps34
  go_wp2
  go_loop [15] (fun i => ∃ k : Nat, k ≤ s.size ∧ i = .int .i64 k ∧ (s.data.toList.take k).all okByte = true) (fun i => s.size - (intOf i).toNat)
  case atStart => exact ⟨0, Nat.zero_le _, rfl, by simp⟩
  case round =>
    obtain ⟨k, hk, rfl, hall⟩ := hrel
    have Hall := Lib.hid hall
    clear hall
    by_cases hlt : k < s.size
    · by_cases ho : okByte s[k] = true
      · have Hs := Lib.hid (all_step hlt Hall.out ho)
        rw [okByte_iff] at ho
        generalize hc : (s[k].toNat : Int) = c at ho
        rcases ho with ⟨h3, h4⟩ | ⟨h3, h4⟩ | h3
        · rw [← hc] at h3 h4; clear hc
          go_wp2
          go_round
          case rel => exact ⟨k + 1, by omega, by go_num, Hs.out⟩
          case measure => simp [intOf]; omega
        · rw [← hc] at h3 h4; clear hc
          go_wp2
          go_round
          case rel => exact ⟨k + 1, by omega, by go_num, Hs.out⟩
          case measure => simp [intOf]; omega
        · rw [← hc] at h3; clear hc
          have h5 : ((s[k].toNat : Int) == 45) = true := by rw [h3]; rfl
          have h6 : (s[k].toNat : Int) < 48 := by omega
          have h7 : (s[k].toNat : Int) < 97 := by omega
          clear h3
          go_wp2
          go_round
          case rel => exact ⟨k + 1, by omega, by go_num, Hs.out⟩
          case measure => simp [intOf]; omega
      · have Hs := Lib.hid (all_not hlt ho)
        rw [okByte_iff] at ho
        have h5 : ((s[k].toNat : Int) == 45) = false := by rw [beq_eq_false_iff_ne]; omega
        have h6 : ¬ ((97 ≤ (s[k].toNat : Int) ∧ (s[k].toNat : Int) ≤ 122)) := by omega
        have h7 : ¬ ((48 ≤ (s[k].toNat : Int) ∧ (s[k].toNat : Int) ≤ 57)) := by omega
        clear ho
        by_cases h8 : 97 ≤ (s[k].toNat : Int)
        · have h9 : decide ((s[k].toNat : Int) ≤ 122) = false := by rw [decide_eq_false_iff_not]; omega
          have ha : 48 ≤ (s[k].toNat : Int) := by omega
          have hb : decide ((s[k].toNat : Int) ≤ 57) = false := by rw [decide_eq_false_iff_not]; omega
          clear h6 h7
          go_wp2
          go_ret
          exact ⟨by rw [Hf.out, Hs.out]; rfl, rfl⟩
        · by_cases ha : 48 ≤ (s[k].toNat : Int)
          · have hb : decide ((s[k].toNat : Int) ≤ 57) = false := by rw [decide_eq_false_iff_not]; omega
            clear h6 h7
            go_wp2
            go_ret
            exact ⟨by rw [Hf.out, Hs.out]; rfl, rfl⟩
          · clear h6 h7
            go_wp2
            go_ret
            exact ⟨by rw [Hf.out, Hs.out]; rfl, rfl⟩
    · obtain rfl : k = s.size := by omega
      go_wp2
      go_ret
      exact ⟨by rw [Hf.out, show s.data.toList.all okByte = true from by rw [← take_all s _ (Nat.le_refl _)]; exact Hall.out]; rfl, rfl⟩

set_option maxHeartbeats 1000000 in
theorem ref_Name (s : ByteArray) (w : World) (hs : s.size ≤ maxLen) :
    Calls Tryd.prog 36 #[.string s] w fun e w' => e = .returned (.bool (nameB s)) ∧ w = w' := by
  unfold maxLen at hs
  by_cases h1 : s.size < 1
  · have Hf := Lib.hid (nameB_short h1)
    go_enter Tryd.func36, Tryd.ntmps36
    go_wp2
    go_ret
    exact ⟨by rw [Hf.out]; rfl, rfl⟩
  by_cases h2 : 24 < s.size
  · have Hf := Lib.hid (nameB_long h2)
    go_enter Tryd.func36, Tryd.ntmps36
    go_wp2
    go_ret
    exact ⟨by rw [Hf.out]; rfl, rfl⟩
  have Hf := Lib.hid (nameB_mid h1 h2)
  go_enter Tryd.func36, Tryd.ntmps36
  go_wp2
  go_loop [3, 4] (fun i _ => ∃ k : Nat, k ≤ s.size ∧ i = .int .i64 k ∧ (s.data.toList.take k).all okByte = true) (fun i _ => s.size - (intOf i).toNat)
  case atStart => exact ⟨0, Nat.zero_le _, rfl, by simp⟩
  case round =>
    obtain ⟨k, hk, rfl, hall⟩ := hrel
    have Hall := Lib.hid hall
    clear hall
    by_cases hlt : k < s.size
    · by_cases ho : okByte s[k] = true
      · have Hs := Lib.hid (all_step hlt Hall.out ho)
        rw [okByte_iff] at ho
        generalize hc : (s[k].toNat : Int) = c at ho
        rcases ho with ⟨h3, h4⟩ | ⟨h3, h4⟩ | h3
        · rw [← hc] at h3 h4; clear hc
          go_wp2
          go_round
          case rel => exact ⟨k + 1, by omega, by go_num, Hs.out⟩
          case measure => simp [intOf]; omega
        · rw [← hc] at h3 h4; clear hc
          go_wp2
          go_round
          case rel => exact ⟨k + 1, by omega, by go_num, Hs.out⟩
          case measure => simp [intOf]; omega
        · rw [← hc] at h3; clear hc
          have h5 : ((s[k].toNat : Int) == 45) = true := by rw [h3]; rfl
          have h6 : (s[k].toNat : Int) < 48 := by omega
          have h7 : (s[k].toNat : Int) < 97 := by omega
          clear h3
          go_wp2
          go_round
          case rel => exact ⟨k + 1, by omega, by go_num, Hs.out⟩
          case measure => simp [intOf]; omega
      · have Hs := Lib.hid (all_not hlt ho)
        rw [okByte_iff] at ho
        have h5 : ((s[k].toNat : Int) == 45) = false := by rw [beq_eq_false_iff_ne]; omega
        have h6 : ¬ ((97 ≤ (s[k].toNat : Int) ∧ (s[k].toNat : Int) ≤ 122)) := by omega
        have h7 : ¬ ((48 ≤ (s[k].toNat : Int) ∧ (s[k].toNat : Int) ≤ 57)) := by omega
        clear ho
        by_cases h8 : 97 ≤ (s[k].toNat : Int)
        · have h9 : decide ((s[k].toNat : Int) ≤ 122) = false := by rw [decide_eq_false_iff_not]; omega
          have ha : 48 ≤ (s[k].toNat : Int) := by omega
          have hb : decide ((s[k].toNat : Int) ≤ 57) = false := by rw [decide_eq_false_iff_not]; omega
          clear h6 h7
          go_wp2
          go_ret
          exact ⟨by rw [Hf.out, Hs.out]; rfl, rfl⟩
        · by_cases ha : 48 ≤ (s[k].toNat : Int)
          · have hb : decide ((s[k].toNat : Int) ≤ 57) = false := by rw [decide_eq_false_iff_not]; omega
            clear h6 h7
            go_wp2
            go_ret
            exact ⟨by rw [Hf.out, Hs.out]; rfl, rfl⟩
          · clear h6 h7
            go_wp2
            go_ret
            exact ⟨by rw [Hf.out, Hs.out]; rfl, rfl⟩
    · obtain rfl : k = s.size := by omega
      go_wp2
      go_ret
      exact ⟨by rw [Hf.out, show s.data.toList.all okByte = true from by rw [← take_all s _ (Nat.le_refl _)]; exact Hall.out]; rfl, rfl⟩
end Go.Proofs.YtdkgphambjnbiaaDoor
