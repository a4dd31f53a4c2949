/-
  What is proved here: the document's Same of two lists of events. Conditions: lists that are no longer than a list can be.
-/
import Derived.Test.YtmhkgfoimkonoaaDoorSoS8
import Derived.Test.YtmhkgfoimkonoaaDoorEvEq
namespace Go.Proofs.YtmhkgfoimkonoaaDoor
open Go Go.RowKit Go.Proofs
attribute [local go_sem ↓] Go.wp_at_zero Go.wp_at_succ
attribute [local go_sem high] ev_neq
instance : DecidableEq Ev := fun _ _ => decidable_of_iff _ eqE_iff
def sameL (a b : List Ev) : Bool := decide (a = b)
set_option maxRecDepth 100000 in
set_option maxHeartbeats 4000000 in
theorem ref_SameL (A B : Option Addr) (n m c d : Nat) (l1 l2 : List Ev) (ok ok' : Nat → Prop) (w : World) (hs : Sl evR ok w A n l1) (ht : Sl evR ok' w B m l2) (hn : n ≤ 1000000) (hm : m ≤ 1000000) :
    Calls Tryd.prog 14 #[.slice A n c, .slice B m d] w fun e w' => e = .returned (.bool (sameL l1 l2)) ∧ Ext w w' := by
  have Hs := Lib.hid hs
  have Ht := Lib.hid ht
  have Hl1 := Lib.hid hs.1
  have Hl2 := Lib.hid ht.1
  clear hs ht
  by_cases hnm : n = m
  · subst hnm
    go_enter Tryd.func14, Tryd.ntmps14
    go_wp2_with fail
    go_loopw [5] (fun i wr => ∃ k : Nat, k ≤ n ∧ i = .int .i64 k ∧ l1.take k = l2.take k ∧ Ext w wr) (fun i _ => n - (intOf i).toNat)
    case atStart => exact ⟨0, Nat.zero_le _, rfl, by simp, Keeps.refl _ _⟩
    case round =>
      obtain ⟨k, hk, rfl, heq, hx⟩ := hrel
      have Heq := Lib.hid heq
      have Hx := Lib.hid hx
      clear heq hx
      by_cases hlt : k < n
      · obtain ⟨b1, o1, a, rfl, hb1, _, he1, d0, d1, d2, d3, d4, d5, d6, d7⟩ := (Hs.out.ext Hx.out).ev hlt
        obtain ⟨b2, o2, b, rfl, hb2, _, he2, f0, f1, f2, f3, f4, f5, f6, f7⟩ := (Ht.out.ext Hx.out).ev hlt
        have He1 := Lib.hid he1
        have He2 := Lib.hid he2
        have i0 : (0 : Int) ≤ (k : Int) := by omega
        have i1 : (k : Int) < (n : Int) := by omega
        clear he1 he2
        cases hab : eqE a b
        · have Hne := Lib.hid (show sameL l1 l2 = false by
            unfold sameL
            rw [decide_eq_false_iff_not]
            intro e
            subst e
            have h9 := He1.out
            rw [He2.out] at h9
            exact eqE_ne hab (Option.some.inj h9).symm)
          go_wp2_with fail
          go_quiet (fail)
          go_wp2_with fail
          go_ret
          exact ⟨by rw [Hne.out]; rfl, Hx.out.drewN nq⟩
        · have Hst := Lib.hid (show l1.take (k + 1) = l2.take (k + 1) by rw [List.take_add_one, List.take_add_one, He1.out, He2.out, Heq.out, eqE_iff.1 hab])
          go_wp2_with fail
          go_quiet (fail)
          go_wp2_with fail
          go_roundw
          case rel => exact ⟨k + 1, by omega, by go_num, Hst.out, Hx.out.drewN nq⟩
          case measure => simp [intOf]; omega
      · obtain rfl : k = n := by omega
        have Hyes := Lib.hid (show sameL l1 l2 = true by
          unfold sameL
          rw [decide_eq_true_iff]
          have h9 := Heq.out
          rwa [List.take_of_length_le (Nat.le_of_eq Hl1.out), List.take_of_length_le (Nat.le_of_eq Hl2.out)] at h9)
        go_wp2_with fail
        go_ret
        exact ⟨by rw [Hyes.out]; rfl, Hx.out⟩
  · have Hne := Lib.hid (show sameL l1 l2 = false by
      unfold sameL
      rw [decide_eq_false_iff_not]
      intro e
      subst e
      exact hnm (Hl1.out.symm.trans Hl2.out))
    have h9 : ((n : Int) == (m : Int)) = false := by simp; omega
    go_enter Tryd.func14, Tryd.ntmps14
    go_wp2_with fail
    go_ret
    exact ⟨by rw [Hne.out]; rfl, Keeps.refl _ _⟩
end Go.Proofs.YtmhkgfoimkonoaaDoor
