/-
  What is proved here: a trial's May, the program's and the document's, returns mayT. Conditions: no text is longer than a text can be.
-/
import Derived.Test.YtdkgphambjnbiaaDoorTrM
import Derived.Test.YtdkgphambjnbiaaDoorName
import Derived.Deep.QuietTactic
import Derived.BigQuiet
import Derived.Deep.DrawnRows
import Derived.Laws.StructEq
namespace Go.Proofs.YtdkgphambjnbiaaDoor
open Go Go.RowKit Go.Proofs
attribute [local go_sem ↓] Go.wp_at_zero Go.wp_at_succ

theorem any_step {l : List ByteArray} {k : Nat} {a x : ByteArray} (h : l[k]? = some x) (hall : (l.take k).any (fun y => a == y) = false) (hx : (a == x) = false) : (l.take (k + 1)).any (fun y => a == y) = false := by
  rw [List.take_add_one, h, List.any_append, hall]; simp [hx]
theorem any_hit {l : List ByteArray} {k : Nat} {a x : ByteArray} (h : l[k]? = some x) (hx : (a == x) = true) : l.any (fun y => a == y) = true := by
  rw [List.any_eq_true]; exact ⟨x, List.mem_of_getElem? h, hx⟩

/-- The place of a text in a list. -/
def idxI (l : List ByteArray) (a : ByteArray) : Int := match l.findIdx? (fun x => a == x) with | some k => (k : Int) | none => -1
theorem idxI_hit {l : List ByteArray} {k : Nat} {a x : ByteArray} (h : l[k]? = some x) (hx : (a == x) = true) (hall : (l.take k).any (fun y => a == y) = false) : idxI l a = k := by
  have : l.findIdx? (fun x => a == x) = some k := by
    rw [List.findIdx?_eq_some_iff_getElem]
    have hk : k < l.length := (List.getElem?_eq_some_iff.1 h).1
    refine ⟨hk, by rw [(List.getElem?_eq_some_iff.1 h).2]; exact hx, fun j hj => ?_⟩
    intro hc
    have : (l.take k).any (fun y => a == y) = true := List.any_eq_true.2 ⟨l[j], by rw [List.mem_take_iff_getElem]; exact ⟨j, by omega, rfl⟩, hc⟩
    rw [hall] at this; cases this
  simp [idxI, this]
theorem idxI_none {l : List ByteArray} {a : ByteArray} (h : l.any (fun y => a == y) = false) : idxI l a = -1 := by
  have : l.findIdx? (fun x => a == x) = none := by
    rw [List.findIdx?_eq_none_iff]
    intro x hx
    rw [Bool.eq_false_iff]; intro hc
    have : l.any (fun y => a == y) = true := List.any_eq_true.2 ⟨x, hx, hc⟩
    rw [h] at this; cases this
  simp [idxI, this]
theorem idxI_any (l : List ByteArray) (a : ByteArray) : decide (0 ≤ idxI l a) = l.any (fun y => a == y) := by
  cases h : l.any (fun y => a == y)
  · rw [idxI_none h]; rfl
  · unfold idxI
    cases h2 : l.findIdx? (fun x => a == x) with
    | some k => simp
    | none =>
      rw [List.findIdx?_eq_none_iff] at h2
      obtain ⟨x, hx, hc⟩ := List.any_eq_true.1 h
      rw [h2 x hx] at hc; cases hc

set_option maxRecDepth 100000 in
set_option maxHeartbeats 2000000 in
theorem idx_str (A : Option Addr) (n c : Nat) (l : List ByteArray) (a : ByteArray) (ok : Nat → Prop) (w : World) (hs : Sl strR ok w A n l) (hn : n ≤ maxLen) :
    Calls Tryd.prog 50 #[.slice A n c, .string a] w fun e w' => e = .returned (.int .i64 (idxI l a)) ∧ w = w' := by
  unfold maxLen at hn
  have Hln := Lib.hid hs.1
  go_enter Tryd.func50, Tryd.ntmps50
  go_wp2_with fail
  go_loop [5, 8] (fun _ i => ∃ k : Nat, k ≤ n ∧ i = .int .i64 k ∧ (l.take k).any (fun y => a == y) = false) (fun _ i => n - (intOf i).toNat)
  case atStart => exact ⟨0, Nat.zero_le _, rfl, by simp⟩
  case round =>
    obtain ⟨k, hk, rfl, hall⟩ := hrel
    have Hall := Lib.hid hall
    clear hall
    by_cases hlt : k < n
    · obtain ⟨b, o, s, rfl, hb, ho, hs1, hc1⟩ := hs.str hlt
      have Hs1 := Lib.hid hs1
      clear hs1
      cases h7 : (a == s) <;> have h7' := h7 <;> rw [beq_toListBytes] at h7'
      · have Ht := Lib.hid (any_step Hs1.out Hall.out h7)
        go_wp2_with fail
        go_round
        case rel => exact ⟨k + 1, by omega, by go_num, Ht.out⟩
        case measure => simp [intOf]; omega
      · have Hf := Lib.hid (idxI_hit Hs1.out h7 Hall.out)
        go_wp2_with fail
        go_ret
        exact ⟨by rw [Hf.out]; rfl, rfl⟩
    · have Hf := Lib.hid (idxI_none (l := l) (a := a) (by have := Hall.out; rw [List.take_of_length_le (by have := Hln.out; omega)] at this; exact this))
      go_wp2
      go_ret
      exact ⟨by rw [Hf.out]; rfl, rfl⟩
theorem contains_str (A : Option Addr) (n c : Nat) (l : List ByteArray) (a : ByteArray) (ok : Nat → Prop) (w : World) (hs : Sl strR ok w A n l) (hn : n ≤ maxLen) :
    Calls Tryd.prog 35 #[.slice A n c, .string a] w fun e w' => e = .returned (.bool (l.any (fun y => a == y))) ∧ w = w' := by
  have Hb := Lib.hid (idxI_any l a)
  go_enter Tryd.func35, Tryd.ntmps35
  go_wp2_with (go_at_call 50; refine (idx_str _ _ _ _ _ _ _ hs hn).mono ?_; rintro _ w' ⟨rfl, rfl⟩)
  go_ret
  exact ⟨by rw [← Hb.out]; rfl, rfl⟩

/-- A trial whose texts are texts. -/
structure TrWf (t : Tr) : Prop where
  name : t.name.size ≤ 140737488355328
  layer : t.layer.size ≤ 140737488355328
  n : t.arms.length ≤ 140737488355328
  i : ∀ s ∈ t.arms, s.size ≤ 140737488355328
theorem le_maxLen {n : Nat} (h : n ≤ 140737488355328) : n ≤ maxLen := by unfold maxLen; omega
theorem lt_maxLen {n : Nat} (h : n ≤ 140737488355328) : n < maxLen := by unfold maxLen; omega

set_option maxRecDepth 100000 in
set_option maxHeartbeats 4000000 in
theorem tr_May (t : Tr) (A : Option Addr) (c : Nat) (ok : Nat → Prop) (w : World) (hs : Sl strR ok w A t.arms.length t.arms) (hc : t.arms.length ≤ c) (hwf : TrWf t) :
    Calls Tryd.prog 16 #[.agg #[.string t.name, .string t.layer, .int .i64 t.lo, .int .i64 t.hi, .slice A t.arms.length c]] w fun r w' => r = .returned (.bool (mayT t)) ∧ Ext w w' := by
  have hx : ∀ o, Ext w (w.alloc o) := fun o => (Keeps.refl _ _).alloc o
  have Hx := Lib.hid hx
  have Hwf := Lib.hid hwf
  have hp1 := le_maxLen hwf.name
  have hp2 := le_maxLen hwf.layer
  have hn := hwf.n
  clear hx hwf
  cases h1 : nameB t.name
  · have Hf := Lib.hid (mayT_no1 h1)
    go_enter Tryd.func16, Tryd.ntmps16
    go_wp2_with (go_at_call 34; refine (event_Name _ _ hp1).mono ?_; rintro _ w' ⟨rfl, rfl⟩)
    go_ret
    exact ⟨by rw [Hf.out]; rfl, Hx.out _⟩
  cases h2 : nameB t.layer
  · have Hf := Lib.hid (mayT_no2 h2)
    go_enter Tryd.func16, Tryd.ntmps16
    go_wp2_with (first | (go_at_call 34; with_reducible refine (event_Name _ _ hp1).mono ?_; rintro _ w' ⟨rfl, rfl⟩) | (go_at_call 34; refine (event_Name _ _ hp2).mono ?_; rintro _ w' ⟨rfl, rfl⟩))
    go_ret
    exact ⟨by rw [Hf.out]; rfl, Hx.out _⟩
  by_cases h3 : t.lo < 0
  · have Hf := Lib.hid (mayT_no3 (.inl h3))
    go_enter Tryd.func16, Tryd.ntmps16
    go_wp2_with (first | (go_at_call 34; with_reducible refine (event_Name _ _ hp1).mono ?_; rintro _ w' ⟨rfl, rfl⟩) | (go_at_call 34; with_reducible refine (event_Name _ _ hp2).mono ?_; rintro _ w' ⟨rfl, rfl⟩))
    go_ret
    exact ⟨by rw [Hf.out]; rfl, Hx.out _⟩
  by_cases h4 : t.hi ≤ t.lo
  · have Hf := Lib.hid (mayT_no3 (.inr (.inl h4)))
    go_enter Tryd.func16, Tryd.ntmps16
    go_wp2_with (first | (go_at_call 34; with_reducible refine (event_Name _ _ hp1).mono ?_; rintro _ w' ⟨rfl, rfl⟩) | (go_at_call 34; with_reducible refine (event_Name _ _ hp2).mono ?_; rintro _ w' ⟨rfl, rfl⟩))
    go_ret
    exact ⟨by rw [Hf.out]; rfl, Hx.out _⟩
  by_cases h5 : 1000 < t.hi
  · have Hf := Lib.hid (mayT_no3 (.inr (.inr h5)))
    go_enter Tryd.func16, Tryd.ntmps16
    go_wp2_with (first | (go_at_call 34; with_reducible refine (event_Name _ _ hp1).mono ?_; rintro _ w' ⟨rfl, rfl⟩) | (go_at_call 34; with_reducible refine (event_Name _ _ hp2).mono ?_; rintro _ w' ⟨rfl, rfl⟩))
    go_ret
    exact ⟨by rw [Hf.out]; rfl, Hx.out _⟩
  by_cases h6 : t.arms.length < 1
  · have Hf := Lib.hid (mayT_no4 (.inl h6))
    go_enter Tryd.func16, Tryd.ntmps16
    go_wp2_with (first | (go_at_call 34; with_reducible refine (event_Name _ _ hp1).mono ?_; rintro _ w' ⟨rfl, rfl⟩) | (go_at_call 34; with_reducible refine (event_Name _ _ hp2).mono ?_; rintro _ w' ⟨rfl, rfl⟩))
    go_ret
    exact ⟨by rw [Hf.out]; rfl, Hx.out _⟩
  by_cases h7 : 16 < t.arms.length
  · have Hf := Lib.hid (mayT_no4 (.inr h7))
    go_enter Tryd.func16, Tryd.ntmps16
    go_wp2_with (first | (go_at_call 34; with_reducible refine (event_Name _ _ hp1).mono ?_; rintro _ w' ⟨rfl, rfl⟩) | (go_at_call 34; with_reducible refine (event_Name _ _ hp2).mono ?_; rintro _ w' ⟨rfl, rfl⟩))
    go_ret
    exact ⟨by rw [Hf.out]; rfl, Hx.out _⟩
  have Hf := Lib.hid (mayT_mid h1 h2 (by omega) (by omega) (by omega) (by omega) (by omega))
  have Hs := Lib.hid hs
  have h4' : t.lo < t.hi := by omega
  clear hs
  go_enter Tryd.func16, Tryd.ntmps16
  go_wp2_with (first | (go_at_call 34; with_reducible refine (event_Name _ _ hp1).mono ?_; rintro _ w' ⟨rfl, rfl⟩) | (go_at_call 34; with_reducible refine (event_Name _ _ hp2).mono ?_; rintro _ w' ⟨rfl, rfl⟩))
  go_loop [45] (fun i => ∃ k : Nat, k ≤ t.arms.length ∧ i = .int .i64 k ∧ armsAt t.arms k) (fun i => t.arms.length - (intOf i).toNat)
  case atStart => exact ⟨0, Nat.zero_le _, rfl, fun i hi => absurd hi (by omega)⟩
  case round =>
    obtain ⟨k, hk, rfl, hall⟩ := hrel
    have Hall := Lib.hid hall
    clear hall
    by_cases hlt : k < t.arms.length
    · obtain ⟨b, o, s, rfl, hb, ho, hs1, hc1⟩ := Hs.out.str hlt
      have hsz := le_maxLen (Hwf.out.i s (List.mem_of_getElem? hs1))
      have Hs1 := Lib.hid hs1
      have i0 : (0 : Int) ≤ (k : Int) := by omega
      have i1 : (k : Int) < (t.arms.length : Int) := by omega
      have i2 : (k : Int) ≤ (c : Int) := by omega
      clear hs1
      cases h8 : nameB s
      · have Hg := Lib.hid (armsOk_no hlt (armOk_name Hs1.out h8))
        go_wp2_with (go_at_call 34; refine (event_Name _ _ hsz).mono ?_; rintro _ w' ⟨rfl, rfl⟩)
        go_ret
        exact ⟨by rw [Hf.out, Hg.out]; rfl, Hx.out _⟩
      · cases h9 : (t.arms.take k).any (fun y => s == y)
        · have Ht := Lib.hid (armsAt_step Hall.out (armOk_yes Hs1.out h8 h9))
          go_wp2_with (first | (go_at_call 34; refine (event_Name _ _ hsz).mono ?_; rintro _ w' ⟨rfl, rfl⟩) | (go_at_call 35; refine (contains_str _ k _ (t.arms.take k) s ok _ ((Hs.out.to_ (by omega)).alloc _) (by unfold maxLen; omega)).mono ?_; rw [h9]; rintro _ w' ⟨rfl, rfl⟩))
          go_round
          case rel => exact ⟨k + 1, by omega, by go_num, Ht.out⟩
          case measure => simp [intOf]; omega
        · have Hg := Lib.hid (armsOk_no hlt (armOk_in Hs1.out h9))
          go_wp2_with (first | (go_at_call 34; refine (event_Name _ _ hsz).mono ?_; rintro _ w' ⟨rfl, rfl⟩) | (go_at_call 35; refine (contains_str _ k _ (t.arms.take k) s ok _ ((Hs.out.to_ (by omega)).alloc _) (by unfold maxLen; omega)).mono ?_; rw [h9]; rintro _ w' ⟨rfl, rfl⟩))
          go_ret
          exact ⟨by rw [Hf.out, Hg.out]; rfl, Hx.out _⟩
    · have Hg := Lib.hid (armsOk_yes Hall.out (by omega))
      go_wp2_with fail
      go_ret
      exact ⟨by rw [Hf.out, Hg.out]; rfl, Hx.out _⟩
end Go.Proofs.YtdkgphambjnbiaaDoor
