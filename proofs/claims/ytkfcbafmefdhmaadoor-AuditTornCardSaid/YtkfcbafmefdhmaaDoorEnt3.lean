/-
  What is proved here: the document's May and the program's may of an entry return mayE. Conditions: no text is longer than a text can be.
-/
import Derived.Test.YtkfcbafmefdhmaaDoorEnt1
namespace Go.Proofs.YtkfcbafmefdhmaaDoor
open Go Go.RowKit Go.Proofs

def mayE (e : Ent) : Bool :=
  decide (0 ≤ e.off) && decide (e.off ≤ 1048576) && decide (0 ≤ e.now) && decide (e.now ≤ 1099511627776) && nameB e.person && decide (e.items.length ≤ 1000) && e.items.all nameB
theorem mayE_off {e : Ent} (h : e.off < 0 ∨ 1048576 < e.off) : mayE e = false := by
  rcases h with h | h
  · have : decide (0 ≤ e.off) = false := by simp; omega
    simp [mayE, this]
  · have : decide (e.off ≤ 1048576) = false := by simp; omega
    simp [mayE, this]
theorem mayE_now {e : Ent} (h : e.now < 0 ∨ 1099511627776 < e.now) : mayE e = false := by
  rcases h with h | h
  · have : decide (0 ≤ e.now) = false := by simp; omega
    simp [mayE, this]
  · have : decide (e.now ≤ 1099511627776) = false := by simp; omega
    simp [mayE, this]
theorem mayE_person {e : Ent} (h : nameB e.person = false) : mayE e = false := by simp [mayE, h]
theorem mayE_many {e : Ent} (h : 1000 < e.items.length) : mayE e = false := by
  have : decide (e.items.length ≤ 1000) = false := by simp; omega
  simp [mayE, this]
theorem mayE_items {e : Ent} (h : e.items.all nameB = false) : mayE e = false := by simp [mayE, h]
theorem mayE_yes {e : Ent} (h1 : 0 ≤ e.off) (h2 : e.off ≤ 1048576) (h3 : 0 ≤ e.now) (h4 : e.now ≤ 1099511627776) (h5 : nameB e.person = true) (h6 : e.items.length ≤ 1000) (h7 : e.items.all nameB = true) : mayE e = true := by
  simp only [mayE, h5, h7]; simp; omega

set_option maxRecDepth 100000 in
set_option maxHeartbeats 2000000 in
theorem ref_May (e : Ent) (A : Option Addr) (c : Nat) (ok : Nat → Prop) (w : World) (hs : Sl strR ok w A e.items.length e.items) (hp : e.person.size ≤ maxLen) (hi : ∀ s ∈ e.items, s.size ≤ maxLen) :
    Calls Tryd.prog 11 #[.agg #[.int .i64 e.off, .int .i64 e.now, .string e.person, .slice A e.items.length c, .int .u64 e.sum]] w fun r w' => r = .returned (.bool (mayE e)) ∧ Ext w w' := by
  have hx : ∀ o, Ext w (w.alloc o) := fun o => (Keeps.refl _ _).alloc o
  have Hx := Lib.hid hx
  clear hx
  by_cases h1 : e.off < 0
  · have Hf := Lib.hid (mayE_off (.inl h1))
    go_enter Tryd.func11, Tryd.ntmps11
    go_wp2_with fail
    go_ret
    exact ⟨by rw [Hf.out]; rfl, Hx.out _⟩
  by_cases h2 : 1048576 < e.off
  · have Hf := Lib.hid (mayE_off (.inr h2))
    go_enter Tryd.func11, Tryd.ntmps11
    go_wp2_with fail
    go_ret
    exact ⟨by rw [Hf.out]; rfl, Hx.out _⟩
  by_cases h3 : e.now < 0
  · have Hf := Lib.hid (mayE_now (.inl h3))
    go_enter Tryd.func11, Tryd.ntmps11
    go_wp2_with fail
    go_ret
    exact ⟨by rw [Hf.out]; rfl, Hx.out _⟩
  by_cases h4 : 1099511627776 < e.now
  · have Hf := Lib.hid (mayE_now (.inr h4))
    go_enter Tryd.func11, Tryd.ntmps11
    go_wp2_with fail
    go_ret
    exact ⟨by rw [Hf.out]; rfl, Hx.out _⟩
  cases h5 : nameB e.person
  · have Hf := Lib.hid (mayE_person h5)
    go_enter Tryd.func11, Tryd.ntmps11
    go_wp2_with (go_at_call 25; refine (ref_Name _ _ hp).mono ?_; rintro _ w' ⟨rfl, rfl⟩)
    go_ret
    exact ⟨by rw [Hf.out]; rfl, Hx.out _⟩
  by_cases h6 : 1000 < e.items.length
  · have Hf := Lib.hid (mayE_many h6)
    go_enter Tryd.func11, Tryd.ntmps11
    go_wp2_with (go_at_call 25; refine (ref_Name _ _ hp).mono ?_; rintro _ w' ⟨rfl, rfl⟩)
    go_ret
    exact ⟨by rw [Hf.out]; rfl, Hx.out _⟩
  have Hs := Lib.hid hs
  have Hi := Lib.hid hi
  clear hs hi
  go_enter Tryd.func11, Tryd.ntmps11
  go_wp2_with (go_at_call 25; refine (ref_Name _ _ hp).mono ?_; rintro _ w' ⟨rfl, rfl⟩)
  go_loop [3] (fun i => ∃ k : Nat, k ≤ e.items.length ∧ i = .int .i64 k ∧ (e.items.take k).all nameB = true) (fun i => e.items.length - (intOf i).toNat)
  case atStart => exact ⟨0, Nat.zero_le _, rfl, by simp⟩
  case round =>
    obtain ⟨k, hk, rfl, hall⟩ := hrel
    have Hall := Lib.hid hall
    clear hall
    by_cases hlt : k < e.items.length
    · obtain ⟨b, o, s, rfl, hb, ho, hs1, hc1⟩ := Hs.out.str hlt
      have hsz := Hi.out s (List.mem_of_getElem? hs1)
      have Hs1 := Lib.hid hs1
      clear hs1
      cases h7 : nameB s
      · have Hf := Lib.hid (mayE_items (all_bad Hs1.out h7))
        go_wp2_with (go_at_call 25; refine (ref_Name _ _ hsz).mono ?_; rintro _ w' ⟨rfl, rfl⟩)
        go_ret
        exact ⟨by rw [Hf.out]; rfl, Hx.out _⟩
      · have Ht := Lib.hid (take_step Hs1.out Hall.out h7)
        go_wp2_with (go_at_call 25; refine (ref_Name _ _ hsz).mono ?_; rintro _ w' ⟨rfl, rfl⟩)
        go_round
        case rel => exact ⟨k + 1, by omega, by go_num, Ht.out⟩
        case measure => simp [intOf]; omega
    · have Hf := Lib.hid (mayE_yes (e := e) (by omega) (by omega) (by omega) (by omega) h5 (by omega) (all_full (n := k) (by omega) Hall.out))
      go_wp2
      go_ret
      exact ⟨by rw [Hf.out]; rfl, Hx.out _⟩
end Go.Proofs.YtkfcbafmefdhmaaDoor
