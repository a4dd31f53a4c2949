/-
  What is proved here: Texts of the document says yes, if both hold the same. Conditions: at most a million elements.
-/
import Derived.Test.YtpkkkhgmkndpdaaGreatDoorBase
import Derived.Test.YtpkkkhgmkndpdaaGreatDoorProg
import Derived.Deep.QuietTactic
import Derived.BigQuiet
namespace Go.Proofs.YtpkkkhgmkndpdaaGreatDoor
open Go Go.RowKit Go.Proofs

set_option maxRecDepth 100000 in
set_option maxHeartbeats 2000000 in
theorem texts_yes (A B : Option Addr) (n c d : Nat) (l : List ByteArray) (ok ok' : Nat → Prop) (w : World) (ha : Sl strR ok w A n l) (hb : Sl strR ok' w B n l) (hn : n ≤ 1000000) :
    Calls Tryz.prog 11 #[.slice A n c, .slice B n d] w fun e w' => e = .returned (.bool true) ∧ ∃ m, w' = w.drewN m := by
  have Ha := Lib.hid ha
  have Hb := Lib.hid hb
  clear ha hb
  go_enter Tryz.func11, Tryz.ntmps11
  go_wp2_with fail
  go_loopw [5] (fun i wr => ∃ (k m : Nat), k ≤ n ∧ i = .int .i64 k ∧ wr = w.drewN m) (fun i _ => n - (intOf i).toNat)
  case atStart => exact ⟨0, 0, Nat.zero_le _, rfl, rfl⟩
  case round =>
    obtain ⟨k, m, hk, rfl, rfl⟩ := hrel
    by_cases hlt : k < n
    · obtain ⟨b1, o1, s, rfl, hb1, _, hs, hc1⟩ := Ha.out.str hlt
      obtain ⟨b2, o2, s', rfl, hb2, _, hs', hc2⟩ := Hb.out.str hlt
      obtain rfl : s = s' := by rw [hs] at hs'; injection hs'
      have i0 : (0 : Int) ≤ (k : Int) := by omega
      have i1 : (k : Int) < (n : Int) := by omega
      clear hs hs'
      go_wp2_with fail
      go_quiet (fail)
      go_wp2_with fail
      go_roundw
      case rel => exact ⟨k + 1, _, by omega, by go_num, rfl⟩
      case measure => simp [intOf]; omega
    · go_wp2_with fail
      go_ret
      exact ⟨rfl, m, rfl⟩

end Go.Proofs.YtpkkkhgmkndpdaaGreatDoor
