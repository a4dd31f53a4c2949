/-
  What is proved here: Same of the document say yes, if both hold the same. Conditions: at most a million elements.
-/
import Derived.Test.YtkfcbafmefdhmaaDoorTexts
import Derived.Test.YtkfcbafmefdhmaaDoorProg
import Derived.Deep.QuietTactic
import Derived.BigQuiet
namespace Go.Proofs.YtkfcbafmefdhmaaDoor
open Go Go.RowKit Go.Proofs

set_option maxRecDepth 100000 in
set_option maxHeartbeats 4000000 in
theorem same_yes (A B : Option Addr) (n c d : Nat) (es : List Ent) (ok ok' : Nat → Prop) (w : World) (ha : Sl entR ok w A n es) (hb : Sl entR ok' w B n es) (hn : n ≤ 1000000) (hit : ∀ e ∈ es, e.items.length ≤ 1000) :
    Calls Tryd.prog 14 #[.slice A n c, .slice B n d] w fun e w' => e = .returned (.bool true) ∧ ∃ m, w' = w.drewN m := by
  have Ha := Lib.hid ha
  have Hb := Lib.hid hb
  have Hit := Lib.hid hit
  clear ha hb hit
  go_enter Tryd.func14, Tryd.ntmps14
  go_wp2_with fail
  go_loopw [5] (fun i wr => ∃ (k m : Nat), k ≤ n ∧ i = .int .i64 k ∧ wr = w.drewN m) (fun i _ => n - (intOf i).toNat)
  case atStart => exact ⟨0, 0, Nat.zero_le _, rfl, rfl⟩
  case round =>
    obtain ⟨k, m, hk, rfl, hwr⟩ := hrel
    have Hwr := Lib.hid hwr
    clear hwr
    by_cases hlt : k < n
    · obtain ⟨b1, o1, e, A1, c1, rfl, hb1, _, he, hx1, hs1, d0, d1, d2, d3, d4⟩ := (show Sl entR ok wr A n es by rw [Hwr.out]; exact Ha.out.drewN m).ent hlt
      obtain ⟨b2, o2, e', A2, c2, rfl, hb2, _, he', hx2, hs2, f0, f1, f2, f3, f4⟩ := (show Sl entR ok' wr B n es by rw [Hwr.out]; exact Hb.out.drewN m).ent hlt
      obtain rfl : e = e' := by rw [he] at he'; injection he'
      have i0 : (0 : Int) ≤ (k : Int) := by omega
      have i1 : (k : Int) < (n : Int) := by omega
      have him := Hit.out e (List.mem_of_getElem? he)
      have Hs1 := Lib.hid hs1
      have Hs2 := Lib.hid hs2
      clear he he' hs1 hs2
      go_wp2_with fail
      go_quiet ((go_at_call 31; exact Calls.quiet_of (texts_yes _ _ _ _ _ _ _ _ _ (Hs1.out.drewN _) (Hs2.out.drewN _) (by omega))))
      go_wp2_with fail
      go_roundw
      case rel => exact ⟨k + 1, m + nq, by omega, by go_num, by rw [Hwr.out, World.drewN_drewN]⟩
      case measure => simp [intOf]; omega
    · go_wp2_with fail
      go_ret
      exact ⟨rfl, m, Hwr.out⟩
end Go.Proofs.YtkfcbafmefdhmaaDoor
