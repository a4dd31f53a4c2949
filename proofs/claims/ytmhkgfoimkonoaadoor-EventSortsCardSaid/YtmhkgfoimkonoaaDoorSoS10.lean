/-
  What is proved here: the library's SortStableFunc at events. Conditions: at most a hundred thousand events.
-/
import Derived.Test.YtmhkgfoimkonoaaDoorSoS9
namespace Go.Proofs.YtmhkgfoimkonoaaDoor
open Go Go.RowKit Go.Proofs
attribute [local go_sem ↓] Go.wp_at_zero Go.wp_at_succ
set_option maxRecDepth 100000 in
set_option maxHeartbeats 2000000 in
theorem ins_zero (A : Option Addr) (c : Nat) (w : World) :
    Calls Tryd.prog 80 #[.slice A 0 c, .int .i64 0, .int .i64 0, .func (.func 33) #[] #[]] w fun e w' => e = .returned (.tuple #[]) ∧ w = w' := by
  go_enter Tryd.func80, Tryd.ntmps80
  go_wp2_with fail
  go_loopw [8] (fun i wr => i = .int .i64 1 ∧ wr = w) (fun _ _ => 0)
  case atStart => exact ⟨rfl, rfl⟩
  case round =>
    obtain ⟨rfl, rfl⟩ := hrel
    go_wp2_with fail
    exact ⟨rfl, .tuple #[], by simp [results, Tryd.results80], rfl, rfl⟩
set_option maxRecDepth 100000 in
set_option maxHeartbeats 2000000 in
theorem stable_zero (A : Option Addr) (c : Nat) (w : World) :
    Calls Tryd.prog 56 #[.slice A 0 c, .int .i64 0, .func (.func 33) #[] #[]] w fun e w' => e = .returned (.tuple #[]) ∧ w = w' := by
  have C := Lib.hid (ins_zero A c w)
  go_enter Tryd.func56, Tryd.ntmps56
  go_wp2_with fail
  go_loopw [7, 8] (fun av bv wr => av = .int .i64 0 ∧ bv = .int .i64 20 ∧ wr = w) (fun _ _ _ => 0)
  case atStart => exact ⟨rfl, rfl, rfl⟩
  case round =>
    obtain ⟨rfl, rfl, rfl⟩ := hrel
    go_wp2_with fail
    refine C.out.mono ?_
    rintro _ _ ⟨rfl, rfl⟩
    go_wp2_with fail
    go_loopw [6] (fun bv wr' => bv = .int .i64 20 ∧ wr' = wr) (fun _ _ => 0)
    case atStart => exact ⟨rfl, rfl⟩
    case round =>
      obtain ⟨rfl, rfl⟩ := hrel
      go_wp2_with fail
      exact ⟨rfl, .tuple #[], by simp [results, Tryd.results56], rfl, rfl⟩
set_option maxRecDepth 100000 in
set_option maxHeartbeats 2000000 in
theorem sort_stable (g o n c S : Nat) (l : List Ev) (w : World) (hr : Row w g o S l) (hn : l.length = n) (hmax : n ≤ 100000) :
    Calls Tryd.prog 32 #[.slice (some ⟨g, o, none⟩) n c, .func (.func 33) #[] #[]] w (fun e w' => e = .returned (.tuple #[]) ∧ StAt g o S n l (sortL lessE l) w w') := by
  have C := Lib.hid (stable_sort g o n c S l w hr hn hmax)
  clear hr hn
  go_enter Tryd.func32, Tryd.ntmps32
  go_wp2_with fail
  refine C.out.mono ?_
  rintro _ w2 ⟨rfl, d, hd, hst⟩
  have Hend := Lib.hid (show StAt g o S n l (sortL lessE l) w w2 by rw [← sortL_eq lessE_swo hd hst.cls]; exact hst)
  clear hd hst
  go_wp2_with fail
  exact ⟨rfl, .tuple #[], by simp [results, Tryd.results32], rfl, Hend.out⟩
set_option maxRecDepth 100000 in
set_option maxHeartbeats 2000000 in
theorem sort_zero (A : Option Addr) (c : Nat) (w : World) :
    Calls Tryd.prog 32 #[.slice A 0 c, .func (.func 33) #[] #[]] w (fun e w' => e = .returned (.tuple #[]) ∧ w = w') := by
  have C := Lib.hid (stable_zero A c w)
  go_enter Tryd.func32, Tryd.ntmps32
  go_wp2_with fail
  refine C.out.mono ?_
  rintro _ _ ⟨rfl, rfl⟩
  go_wp2_with fail
  exact ⟨rfl, .tuple #[], by simp [results, Tryd.results32], rfl, rfl⟩
end Go.Proofs.YtmhkgfoimkonoaaDoor
