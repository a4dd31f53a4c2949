/-
  What is proved here: bytes that come in are opened. No condition.
-/
import Derived.Test.YtkfcbafmefdhmaaDoorAuOpen
import Derived.Test.YtkfcbafmefdhmaaDoorAuLD
namespace Go.Proofs.YtkfcbafmefdhmaaDoor
open Go Go.RowKit Go.Proofs Go.Deep Go.ChangeShapes Go.WideShapes
section
variable {H : Type} {enc : TypeId × Value → H} {W : World} {sp : Nat → Bool} {held : Bool}
theorem cells_byte : Tryd.prog.cellsOf 5 = 1 := by kernel_rfl
theorem open_byts {base : Nat} {fuel : Nat} {cs : List Value} {x : DataW H × List MemPlace} (h : DataW.trod enc Tryd.prog W base sp held fuel 39 cs = some x) :
    ∃ (A : Option Addr) (n c : Nat) (l : List UInt8), cs = [.slice A n c] ∧ n ≤ c ∧ c ≤ maxLen ∧ Sl byteR (fun k => k < W.heap.size) W A n l ∧ ∀ a ∈ l, True :=
  open_Sl (R := byteR) (good := fun _ => True) Tryd.underlying39 cells_byte (by decide) (fun _ _ _ _ hx => by
    obtain ⟨z, hc, _, hw⟩ := DataW.trod_int Tryd.underlying5 hx
    subst hc
    have e1 : IntKind.u8.min = 0 := by decide
    have e2 : IntKind.u8.max = 255 := by decide
    simp only [Lit.wf, Bool.and_eq_true, decide_eq_true_eq, e1, e2] at hw
    refine ⟨UInt8.ofNat z.toNat, trivial, ?_⟩
    show [Value.int .u8 z] = [Value.int .u8 ((UInt8.ofNat z.toNat).toNat : Int)]
    rw [UInt8.toNat_ofNat']
    congr 2
    omega) h
end
end Go.Proofs.YtkfcbafmefdhmaaDoor
