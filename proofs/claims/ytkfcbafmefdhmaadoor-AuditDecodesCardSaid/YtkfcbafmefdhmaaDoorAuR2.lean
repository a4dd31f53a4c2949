/-
  What is proved here: the document's small of a word. Conditions: texts of at most 2^47 bytes.
-/
import Derived.Test.YtkfcbafmefdhmaaDoorAuR1
namespace Go.Proofs.YtkfcbafmefdhmaaDoor
open Go Go.RowKit Go.Proofs
attribute [local go_sem ↓] Go.wp_at_zero Go.wp_at_succ
def smallI (l : List UInt8) (most : Int) : Int := match numOf l with | some n => if (n : Int) ≤ most then (n : Int) else -1 | none => -1
theorem smallI_none {l : List UInt8} (h : numOf l = none) (most : Int) : smallI l most = -1 := by unfold smallI; rw [h]
theorem smallI_yes {l : List UInt8} {n : Nat} (h : numOf l = some n) {most : Int} (hn : (n : Int) ≤ most) : smallI l most = n := by unfold smallI; rw [h]; exact if_pos hn
theorem smallI_no {l : List UInt8} {n : Nat} (h : numOf l = some n) {most : Int} (hn : ¬ (n : Int) ≤ most) : smallI l most = -1 := by unfold smallI; rw [h]; exact if_neg hn
set_option maxRecDepth 100000 in
set_option maxHeartbeats 2000000 in
theorem ref_small (s : ByteArray) (most : Int) (w : World) (hs : s.size ≤ maxLen) (h0 : 0 ≤ most) (h1 : most ≤ 1099511627776) :
    Calls Tryd.prog 59 #[.string s, .int .i64 most] w fun e w' => e = .returned (.int .i64 (smallI s.data.toList most)) ∧ w = w' := by
  have C := ref_number s w hs
  cases h : numOf s.data.toList with
  | none =>
    rw [numV_none h] at C
    have C := Lib.hid C
    have Hf := Lib.hid (smallI_none h most)
    clear h
    go_enter Tryd.func59, Tryd.ntmps59
    go_wp2_with fail
    refine C.out.mono ?_
    rintro _ _ ⟨rfl, rfl⟩
    go_wp2_with fail
    go_ret
    exact ⟨by rw [Hf.out]; rfl, rfl⟩
  | some n =>
    rw [numV_some h] at C
    have C := Lib.hid C
    have Hf := Lib.hid h
    clear h
    by_cases hn : (n : Int) ≤ most
    · have Hr := Lib.hid (smallI_yes Hf.out hn)
      have hn' : ¬ most < (n : Int) := by omega
      go_enter Tryd.func59, Tryd.ntmps59
      go_wp2_with fail
      refine C.out.mono ?_
      rintro _ _ ⟨rfl, rfl⟩
      go_wp2_with fail
      go_ret
      exact ⟨by rw [Hr.out]; rfl, rfl⟩
    · have Hr := Lib.hid (smallI_no Hf.out hn)
      have hn' : most < (n : Int) := by omega
      go_enter Tryd.func59, Tryd.ntmps59
      go_wp2_with fail
      refine C.out.mono ?_
      rintro _ _ ⟨rfl, rfl⟩
      go_wp2_with fail
      go_ret
      exact ⟨by rw [Hr.out]; rfl, rfl⟩
end Go.Proofs.YtkfcbafmefdhmaaDoor
