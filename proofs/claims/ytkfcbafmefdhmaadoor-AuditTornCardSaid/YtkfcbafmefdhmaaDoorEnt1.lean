/-
  What is proved here: Few, told, handed and the document's May of entries return what the plain functions say. Conditions: where they are named.
-/
import Derived.Test.YtkfcbafmefdhmaaDoorName
import Derived.Deep.RegionHeld3
import Derived.Deep.DrawnRows
namespace Go.Proofs.YtkfcbafmefdhmaaDoor
open Go Go.RowKit Go.Proofs
attribute [local go_sem ↓] Go.wp_at_zero Go.wp_at_succ

def fewE (e : Ent) : Bool := decide (e.person.size ≤ 100) && decide (e.items.length ≤ 30) && e.items.all fun s => decide (s.size ≤ 100)
def fewB (es : List Ent) : Bool := decide (es.length ≤ 31) && es.all fewE
theorem fewB_not {es : List Ent} {k : Nat} {e : Ent} (h : es[k]? = some e) (hf : fewE e = false) : fewB es = false := by
  have : es.all fewE = false := by
    rw [List.all_eq_false]
    exact ⟨e, List.mem_of_getElem? h, by simp [hf]⟩
  simp [fewB, this]
theorem fewB_long {es : List Ent} (h : 31 < es.length) : fewB es = false := by
  have : decide (es.length ≤ 31) = false := by simp; omega
  simp [fewB, this]
theorem take_step {α : Type} {l : List α} {k : Nat} {a : α} {p : α → Bool} (h : l[k]? = some a) (hall : (l.take k).all p = true) (hp : p a = true) : (l.take (k + 1)).all p = true := by
  rw [List.take_add_one, h, List.all_append, hall]; simp [hp]
theorem all_full {α : Type} {l : List α} {p : α → Bool} {n : Nat} (h : l.length ≤ n) (hall : (l.take n).all p = true) : l.all p = true := by
  rwa [List.take_of_length_le h] at hall
theorem all_bad {α : Type} {l : List α} {p : α → Bool} {k : Nat} {a : α} (h : l[k]? = some a) (hp : p a = false) : l.all p = false := by
  rw [List.all_eq_false]
  exact ⟨a, List.mem_of_getElem? h, by simp [hp]⟩

set_option maxRecDepth 100000 in
set_option maxHeartbeats 2000000 in
theorem ref_Few (A : Option Addr) (n c : Nat) (es : List Ent) (ok : Nat → Prop) (w : World) (hs : Sl entR ok w A n es) (hn : n ≤ maxLen) :
    Calls Tryd.prog 9 #[.slice A n c] w fun e w' => e = .returned (.bool (fewB es)) ∧ w = w' := by
  unfold maxLen at hn
  have Hln := Lib.hid hs.1
  go_enter Tryd.func9, Tryd.ntmps9
  go_wp2
  go_loop [3, 4] (fun i _ => ∃ k : Nat, k ≤ n ∧ k ≤ 31 ∧ i = .int .i64 k ∧ (es.take k).all fewE = true) (fun i _ => n - (intOf i).toNat)
  case atStart => exact ⟨0, Nat.zero_le _, by omega, rfl, by simp⟩
  case round =>
    obtain ⟨k, hk, hk1, rfl, hall⟩ := hrel
    have Hall := Lib.hid hall
    clear hall
    by_cases hlt : k < n
    · obtain ⟨b, o, e, A', c', rfl, hb, ho, he, hc', hs', d0, d1, d2, d3, d4⟩ := hs.ent hlt
      have Hs' := Lib.hid hs'
      have He := Lib.hid he
      clear hs' he
      by_cases h30 : 30 < k
      · have Hf := Lib.hid (fewB_long (es := es) (by have := Hln.out; omega))
        go_wp2
        go_ret
        exact ⟨by rw [Hf.out]; rfl, rfl⟩
      by_cases hp : 100 < e.person.size
      · have Hf := Lib.hid (fewB_not He.out (by simp [fewE]; omega))
        go_wp2
        go_ret
        exact ⟨by rw [Hf.out]; rfl, rfl⟩
      by_cases hi : 30 < e.items.length
      · have Hf := Lib.hid (fewB_not He.out (by simp [fewE]; omega))
        go_wp2
        go_ret
        exact ⟨by rw [Hf.out]; rfl, rfl⟩
      go_wp2
      go_loop [4] (fun i => ∃ j : Nat, j ≤ e.items.length ∧ i = .int .i64 j ∧ (e.items.take j).all (fun s => decide (s.size ≤ 100)) = true) (fun i => e.items.length - (intOf i).toNat)
      case atStart => exact ⟨0, Nat.zero_le _, rfl, by simp⟩
      case round =>
        obtain ⟨j, hj, rfl, hal⟩ := hrel
        have Hal := Lib.hid hal
        clear hal
        by_cases hlj : j < e.items.length
        · obtain ⟨b', o', s, rfl, hb', ho', hs1, hc1⟩ := Hs'.out.str hlj
          have Hs1 := Lib.hid hs1
          clear hs1
          by_cases hbig : 100 < s.size
          · have Hf := Lib.hid (fewB_not He.out (by have := all_bad (p := fun s : ByteArray => decide (s.size ≤ 100)) Hs1.out (by simp; omega); simp only [fewE, this]; simp))
            go_wp2
            go_ret
            exact ⟨by rw [Hf.out]; rfl, rfl⟩
          · go_wp2
            go_round
            case rel => exact ⟨j + 1, by omega, by go_num, take_step Hs1.out Hal.out (by simp; omega)⟩
            case measure => simp [intOf]; omega
        · have Hfe := Lib.hid (show fewE e = true by
            have h := all_full (n := j) (by omega) Hal.out
            simp only [fewE, h]; simp; omega)
          go_wp2
          go_round
          case rel => exact ⟨k + 1, by omega, by omega, by go_num, take_step He.out Hall.out Hfe.out⟩
          case measure => simp [intOf]; omega
    · have Hf := Lib.hid (show fewB es = true by
        have h := all_full (n := k) (by have := Hln.out; omega) Hall.out
        simp only [fewB, h]; simp; have := Hln.out; omega)
      go_wp2
      go_ret
      exact ⟨by rw [Hf.out]; rfl, rfl⟩
end Go.Proofs.YtkfcbafmefdhmaaDoor
