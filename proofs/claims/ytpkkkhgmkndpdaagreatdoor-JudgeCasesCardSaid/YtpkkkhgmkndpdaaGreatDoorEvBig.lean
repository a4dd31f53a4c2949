/-
  What is proved here: small functions on events: the document's Big, Some, All, and both Worths; the program's Maker. Conditions: texts of at most a million bytes (Maker), or as long as a text can be.
  the document's All of events says whether each may be. Conditions: no text is longer than a text can be.
-/
import Derived.Test.YtpkkkhgmkndpdaaGreatDoorEvMay
namespace Go.Proofs.YtpkkkhgmkndpdaaGreatDoor
open Go Go.RowKit Go.Proofs
attribute [local go_sem ↓] Go.wp_at_zero Go.wp_at_succ

def bigE (e : Ev) (m : Nat) : Bool := decide (m < e.src.size) || decide (m < e.person.size) || decide (m < e.item.size) || decide (m < e.text.size)
theorem bigE_no {e : Ev} {m : Nat} (h : bigE e m = false) : e.src.size ≤ m ∧ e.person.size ≤ m ∧ e.item.size ≤ m ∧ e.text.size ≤ m := by
  simp only [bigE, Bool.or_eq_false_iff, decide_eq_false_iff_not] at h
  omega
theorem evSm_of {e : Ev} {m : Nat} (h : bigE e m = false) (hm : m ≤ 999999) : EvSm e := by
  have := bigE_no h
  exact ⟨by omega, by omega, by omega, by omega⟩
set_option maxRecDepth 100000 in
set_option maxHeartbeats 2000000 in
theorem ref_Big (e : Ev) (m : Nat) (w : World) (hwf : EvWf e) :
    Calls Tryz.prog 12 #[.agg #[.string e.src, .int .i64 e.num, .int .i64 e.tick, .int .i64 e.kind, .string e.person, .string e.item, .int .i64 e.value, .string e.text], .int .i64 (m : Int)] w fun r w' => r = .returned (.bool (bigE e m)) ∧ Ext w w' := by
  have a1 := hwf.src
  have a2 := hwf.person
  have a3 := hwf.item
  have a4 := hwf.text
  clear hwf
  cases h1 : decide (m < e.src.size)
  · cases h2 : decide (m < e.person.size)
    · cases h3 : decide (m < e.item.size)
      · have Hf := Lib.hid (show bigE e m = decide (m < e.text.size) by unfold bigE; rw [h1, h2, h3]; rfl)
        go_enter Tryz.func12, Tryz.ntmps12
        go_wp2_with fail
        go_ret
        exact ⟨by rw [Hf.out]; simp, (Keeps.refl _ _).alloc _⟩
      · have Hf := Lib.hid (show bigE e m = true by unfold bigE; rw [h1, h2, h3]; rfl)
        go_enter Tryz.func12, Tryz.ntmps12
        go_wp2_with fail
        go_ret
        exact ⟨by rw [Hf.out]; rfl, (Keeps.refl _ _).alloc _⟩
    · have Hf := Lib.hid (show bigE e m = true by unfold bigE; rw [h1, h2]; rfl)
      go_enter Tryz.func12, Tryz.ntmps12
      go_wp2_with fail
      go_ret
      exact ⟨by rw [Hf.out]; rfl, (Keeps.refl _ _).alloc _⟩
  · have Hf := Lib.hid (show bigE e m = true by unfold bigE; rw [h1]; rfl)
    go_enter Tryz.func12, Tryz.ntmps12
    go_wp2_with fail
    go_ret
    exact ⟨by rw [Hf.out]; rfl, (Keeps.refl _ _).alloc _⟩

set_option maxRecDepth 100000 in
set_option maxHeartbeats 2000000 in
theorem ref_Some (A : Option Addr) (n c : Nat) (l : List Ev) (m : Nat) (ok : Nat → Prop) (w : World) (hs : Sl evR ok w A n l) (hn : n ≤ maxLen) (hwf : ∀ e ∈ l, EvWf e) :
    Calls Tryz.prog 5 #[.slice A n c, .int .i64 (m : Int)] w fun r w' => r = .returned (.bool (l.any (fun e => bigE e m))) ∧ Ext w w' := by
  have Hs := Lib.hid hs
  have Hl := Lib.hid hs.1
  have Hwf := Lib.hid hwf
  unfold maxLen at hn
  clear hs hwf
  go_enter Tryz.func5, Tryz.ntmps5
  go_wp2_with fail
  go_loopw [5] (fun i wr => ∃ k : Nat, k ≤ n ∧ i = .int .i64 k ∧ (l.take k).any (fun e => bigE e m) = false ∧ Ext w wr) (fun i _ => n - (intOf i).toNat)
  case atStart => exact ⟨0, Nat.zero_le _, rfl, by simp, Keeps.refl _ _⟩
  case round =>
    obtain ⟨k, hk, rfl, hany, hx⟩ := hrel
    have Hany := Lib.hid hany
    have Hx := Lib.hid hx
    clear hany hx
    by_cases hlt : k < n
    · obtain ⟨b, o, e, rfl, hb, _, he, d0, d1, d2, d3, d4, d5, d6, d7⟩ := (Hs.out.ext Hx.out).ev hlt
      have He := Lib.hid he
      have Hw := Lib.hid (Hwf.out e (List.mem_of_getElem? he))
      have i0 : (0 : Int) ≤ (k : Int) := by omega
      have i1 : (k : Int) < (n : Int) := by omega
      clear he
      cases hb : bigE e m
      · have Hst := Lib.hid (show (l.take (k + 1)).any (fun e => bigE e m) = false by rw [List.take_add_one, He.out, List.any_append, Hany.out]; simp [hb])
        go_wp2_with (go_at_call 12; refine (ref_Big e m _ Hw.out).mono ?_; rw [hb]; rintro _ w2 ⟨rfl, hx2⟩; have Hx2 := Lib.hid (Hx.out.trans hx2); clear hx2)
        go_roundw
        case rel => exact ⟨k + 1, by omega, by go_num, Hst.out, Hx2.out⟩
        case measure => simp [intOf]; omega
      · have Hf := Lib.hid (show l.any (fun e => bigE e m) = true from List.any_eq_true.2 ⟨e, List.mem_of_getElem? He.out, hb⟩)
        go_wp2_with (go_at_call 12; refine (ref_Big e m _ Hw.out).mono ?_; rw [hb]; rintro _ w2 ⟨rfl, hx2⟩; have Hx2 := Lib.hid (Hx.out.trans hx2); clear hx2)
        go_ret
        exact ⟨by rw [Hf.out]; rfl, Hx2.out⟩
    · obtain rfl : k = n := by omega
      have Hf := Lib.hid (show l.any (fun e => bigE e m) = false by have := Hany.out; rw [List.take_of_length_le (Nat.le_of_eq Hl.out)] at this; exact this)
      go_wp2_with fail
      go_ret
      exact ⟨by rw [Hf.out]; rfl, Hx.out⟩
end Go.Proofs.YtpkkkhgmkndpdaaGreatDoor
namespace Go.Proofs.YtpkkkhgmkndpdaaGreatDoor
open Go Go.RowKit Go.Proofs
attribute [local go_sem ↓] Go.wp_at_zero Go.wp_at_succ
set_option maxRecDepth 100000 in
set_option maxHeartbeats 2000000 in
theorem ref_All (A : Option Addr) (n c : Nat) (l : List Ev) (ok : Nat → Prop) (w : World) (hs : Sl evR ok w A n l) (hn : n ≤ maxLen) (hsm : ∀ e ∈ l, EvSm e) :
    Calls Tryz.prog 7 #[.slice A n c] w fun r w' => r = .returned (.bool (l.all mayE)) ∧ Ext w w' := by
  have Hs := Lib.hid hs
  have Hl := Lib.hid hs.1
  have Hsm := Lib.hid hsm
  unfold maxLen at hn
  clear hs hsm
  go_enter Tryz.func7, Tryz.ntmps7
  go_wp2_with fail
  go_loopw [3] (fun i wr => ∃ k : Nat, k ≤ n ∧ i = .int .i64 k ∧ (l.take k).all mayE = true ∧ Ext w wr) (fun i _ => n - (intOf i).toNat)
  case atStart => exact ⟨0, Nat.zero_le _, rfl, by simp, Keeps.refl _ _⟩
  case round =>
    obtain ⟨k, hk, rfl, hall, hx⟩ := hrel
    have Hall := Lib.hid hall
    have Hx := Lib.hid hx
    clear hall hx
    by_cases hlt : k < n
    · obtain ⟨b, o, e, rfl, hb, _, he, d0, d1, d2, d3, d4, d5, d6, d7⟩ := (Hs.out.ext Hx.out).ev hlt
      have He := Lib.hid he
      have Hw := Lib.hid (Hsm.out e (List.mem_of_getElem? he))
      have i0 : (0 : Int) ≤ (k : Int) := by omega
      have i1 : (k : Int) < (n : Int) := by omega
      clear he
      cases hm : mayE e
      · have Hf := Lib.hid (show l.all mayE = false by rw [Bool.eq_false_iff]; intro h; have := List.all_eq_true.1 h e (List.mem_of_getElem? He.out); rw [hm] at this; cases this)
        go_wp2_with (go_at_call 16; refine (ref_May e _ Hw.out).mono ?_; rw [hm]; rintro _ w2 ⟨rfl, hx2⟩; have Hx2 := Lib.hid (Hx.out.trans hx2); clear hx2)
        go_ret
        exact ⟨by rw [Hf.out]; rfl, Hx2.out⟩
      · have Hst := Lib.hid (show (l.take (k + 1)).all mayE = true by rw [List.take_add_one, He.out, List.all_append, Hall.out]; simp [hm])
        go_wp2_with (go_at_call 16; refine (ref_May e _ Hw.out).mono ?_; rw [hm]; rintro _ w2 ⟨rfl, hx2⟩; have Hx2 := Lib.hid (Hx.out.trans hx2); clear hx2)
        go_roundw
        case rel => exact ⟨k + 1, by omega, by go_num, Hst.out, Hx2.out⟩
        case measure => simp [intOf]; omega
    · obtain rfl : k = n := by omega
      have Hf := Lib.hid (show l.all mayE = true by have := Hall.out; rw [List.take_of_length_le (Nat.le_of_eq Hl.out)] at this; exact this)
      go_wp2_with fail
      go_ret
      exact ⟨by rw [Hf.out]; rfl, Hx.out⟩
end Go.Proofs.YtpkkkhgmkndpdaaGreatDoor
