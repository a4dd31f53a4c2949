/-
  What is proved here: the program's may of an entry returns mayE. Conditions: no text is longer than a text can be.
-/
import Derived.Test.YtkfcbafmefdhmaaDoorEnt3
namespace Go.Proofs.YtkfcbafmefdhmaaDoor
open Go Go.RowKit Go.Proofs

theorem may_fn (s : ByteArray) (w : World) (hs : s.size ≤ maxLen) :
    Calls Tryd.prog 44 #[.string s] w fun e w' => e = .returned (.bool (!nameB s)) ∧ w = w' := by
  go_enter Tryd.func44, Tryd.ntmps44
  go_wp2_with (go_at_call 45; refine (event_Name _ _ hs).mono ?_; rintro _ w' ⟨rfl, rfl⟩)
  go_ret
  exact ⟨rfl, rfl⟩

/-- The place of the first one that is no name. -/
def badAt (l : List ByteArray) : Int := match l.findIdx? (fun s => !nameB s) with | some k => (k : Int) | none => -1
theorem badAt_some {l : List ByteArray} {k : Nat} {s : ByteArray} (h : l[k]? = some s) (hs : nameB s = false) (hall : (l.take k).all nameB = true) : badAt l = k := by
  have : l.findIdx? (fun s => !nameB s) = some k := by
    rw [List.findIdx?_eq_some_iff_getElem]
    have hk : k < l.length := (List.getElem?_eq_some_iff.1 h).1
    have he : l[k] = s := (List.getElem?_eq_some_iff.1 h).2
    refine ⟨hk, by rw [he, hs]; rfl, fun j hj => ?_⟩
    have := List.all_eq_true.1 hall l[j] (by rw [List.mem_take_iff_getElem]; exact ⟨j, by omega, rfl⟩)
    simp [this]
  simp [badAt, this]
theorem badAt_none {l : List ByteArray} (hall : l.all nameB = true) : badAt l = -1 := by
  have : l.findIdx? (fun s => !nameB s) = none := by
    rw [List.findIdx?_eq_none_iff]
    intro x hx
    simp [List.all_eq_true.1 hall x hx]
  simp [badAt, this]

set_option maxRecDepth 100000 in
set_option maxHeartbeats 2000000 in
theorem idx_bad (A : Option Addr) (n c : Nat) (l : List ByteArray) (ok : Nat → Prop) (w : World) (hs : Sl strR ok w A n l) (hn : n ≤ maxLen) (hl : ∀ s ∈ l, s.size ≤ maxLen) :
    Calls Tryd.prog 60 #[.slice A n c, .func (.func 44) #[] #[]] w fun e w' => e = .returned (.int .i64 (badAt l)) ∧ w = w' := by
  unfold maxLen at hn
  have Hln := Lib.hid hs.1
  go_enter Tryd.func60, Tryd.ntmps60
  go_wp2_with fail
  go_loop [5, 8] (fun _ i => ∃ k : Nat, k ≤ n ∧ i = .int .i64 k ∧ (l.take k).all nameB = true) (fun _ i => n - (intOf i).toNat)
  case atStart => exact ⟨0, Nat.zero_le _, rfl, by simp⟩
  case round =>
    obtain ⟨k, hk, rfl, hall⟩ := hrel
    have Hall := Lib.hid hall
    clear hall
    by_cases hlt : k < n
    · obtain ⟨b, o, s, rfl, hb, ho, hs1, hc1⟩ := hs.str hlt
      have hsz := hl s (List.mem_of_getElem? hs1)
      have Hs1 := Lib.hid hs1
      clear hs1
      cases h7 : nameB s
      · have Hf := Lib.hid (badAt_some Hs1.out h7 Hall.out)
        go_wp2_with (go_at_call 44; refine (may_fn _ _ hsz).mono ?_; rintro _ w' ⟨rfl, rfl⟩)
        go_ret
        exact ⟨by rw [Hf.out]; rfl, rfl⟩
      · have Ht := Lib.hid (take_step Hs1.out Hall.out h7)
        go_wp2_with (go_at_call 44; refine (may_fn _ _ hsz).mono ?_; rintro _ w' ⟨rfl, rfl⟩)
        go_round
        case rel => exact ⟨k + 1, by omega, by go_num, Ht.out⟩
        case measure => simp [intOf]; omega
    · have Hf := Lib.hid (badAt_none (all_full (l := l) (n := k) (by have := Hln.out; omega) Hall.out))
      go_wp2
      go_ret
      exact ⟨by rw [Hf.out]; rfl, rfl⟩

theorem badAt_all (l : List ByteArray) : decide (0 ≤ badAt l) = !(l.all nameB) := by
  cases h : l.all nameB
  · unfold badAt
    cases h2 : l.findIdx? (fun s => !nameB s) with
    | some k => simp
    | none =>
      rw [List.findIdx?_eq_none_iff] at h2
      have : l.all nameB = true := by rw [List.all_eq_true]; intro x hx; simpa using h2 x hx
      rw [this] at h; cases h
  · rw [badAt_none h]; rfl

theorem contains_bad (A : Option Addr) (n c : Nat) (l : List ByteArray) (ok : Nat → Prop) (w : World) (hs : Sl strR ok w A n l) (hn : n ≤ maxLen) (hl : ∀ s ∈ l, s.size ≤ maxLen) :
    Calls Tryd.prog 46 #[.slice A n c, .func (.func 44) #[] #[]] w fun e w' => e = .returned (.bool (!(l.all nameB))) ∧ w = w' := by
  have Hb := Lib.hid (badAt_all l)
  go_enter Tryd.func46, Tryd.ntmps46
  go_wp2_with (go_at_call 60; refine (idx_bad _ _ _ _ _ _ hs hn hl).mono ?_; rintro _ w' ⟨rfl, rfl⟩)
  go_ret
  exact ⟨by rw [← Hb.out]; rfl, rfl⟩

set_option maxRecDepth 100000 in
set_option maxHeartbeats 2000000 in
theorem aud_may (e : Ent) (A : Option Addr) (c : Nat) (ok : Nat → Prop) (w : World) (hs : Sl strR ok w A e.items.length e.items) (hn : e.items.length ≤ maxLen) (hp : e.person.size ≤ maxLen) (hi : ∀ s ∈ e.items, s.size ≤ maxLen) :
    Calls Tryd.prog 28 #[.agg #[.int .i64 e.off, .int .i64 e.now, .string e.person, .slice A e.items.length c, .int .u64 e.sum]] w fun r w' => r = .returned (.bool (mayE e)) ∧ Ext w w' := by
  have hx : ∀ o, Ext w (w.alloc o) := fun o => (Keeps.refl _ _).alloc o
  have Hx := Lib.hid hx
  clear hx
  by_cases h1 : e.off < 0
  · have Hf := Lib.hid (mayE_off (.inl h1))
    go_enter Tryd.func28, Tryd.ntmps28
    go_wp2_with fail
    go_ret
    exact ⟨by rw [Hf.out]; rfl, Hx.out _⟩
  by_cases h2 : 1048576 < e.off
  · have Hf := Lib.hid (mayE_off (.inr h2))
    go_enter Tryd.func28, Tryd.ntmps28
    go_wp2_with fail
    go_ret
    exact ⟨by rw [Hf.out]; rfl, Hx.out _⟩
  by_cases h3 : e.now < 0
  · have Hf := Lib.hid (mayE_now (.inl h3))
    go_enter Tryd.func28, Tryd.ntmps28
    go_wp2_with fail
    go_ret
    exact ⟨by rw [Hf.out]; rfl, Hx.out _⟩
  by_cases h4 : 1099511627776 < e.now
  · have Hf := Lib.hid (mayE_now (.inr h4))
    go_enter Tryd.func28, Tryd.ntmps28
    go_wp2_with fail
    go_ret
    exact ⟨by rw [Hf.out]; rfl, Hx.out _⟩
  cases h5 : nameB e.person
  · have Hf := Lib.hid (mayE_person h5)
    go_enter Tryd.func28, Tryd.ntmps28
    go_wp2_with (go_at_call 45; refine (event_Name _ _ hp).mono ?_; rintro _ w' ⟨rfl, rfl⟩)
    go_ret
    exact ⟨by rw [Hf.out]; rfl, Hx.out _⟩
  by_cases h6 : 1000 < e.items.length
  · have Hf := Lib.hid (mayE_many h6)
    have h6' : decide ((e.items.length : Int) ≤ 1000) = false := by rw [decide_eq_false_iff_not]; omega
    go_enter Tryd.func28, Tryd.ntmps28
    go_wp2_with (go_at_call 45; refine (event_Name _ _ hp).mono ?_; rintro _ w' ⟨rfl, rfl⟩)
    go_ret
    exact ⟨by rw [Hf.out]; rfl, Hx.out _⟩
  have Hf := Lib.hid (show mayE e = e.items.all nameB by
    cases h7 : e.items.all nameB
    · exact mayE_items h7
    · exact mayE_yes (by omega) (by omega) (by omega) (by omega) h5 (by omega) h7)
  have Hs := Lib.hid hs
  clear hs
  go_enter Tryd.func28, Tryd.ntmps28
  go_wp2_with (first | (go_at_call 45; refine (event_Name _ _ hp).mono ?_; rintro _ w' ⟨rfl, rfl⟩) | (go_at_call 46; refine (contains_bad _ _ _ _ _ _ (Hs.out.alloc _) hn hi).mono ?_; rintro _ w' ⟨rfl, rfl⟩))
  go_ret
  exact ⟨by rw [Hf.out]; simp, Hx.out _⟩
end Go.Proofs.YtkfcbafmefdhmaaDoor
