/-
  What is proved here: a region that draws its order, whose operations only read old memory, and whose callees make new memory at most and hand back one value: one walk of the text's order serves every order. No condition.
-/
import Derived.Test.YtdkgphambjnbiaaDoorBase
import Derived.Deep.QuietTactic
import Derived.BigQuiet
namespace Go.Proofs.YtdkgphambjnbiaaDoor
open Go Go.RowKit

/-- A world that goes on from w0. -/
structure XW (w0 : World) where
  w : World
  h : Ext w0 w
instance (w0 : World) : Nonempty (XW w0) := ⟨⟨w0, Keeps.refl _ _⟩⟩
theorem XW.cell {w0 : World} (y : XW w0) : ∀ p : Addr, p.block < w0.heap.size → y.w.cell? p = w0.cell? p := y.h.cells
theorem wp_region_ext {P : Program} {id : Nat} {Q : Exit → Act → World → Prop} {a : Act} {w : World} {l : List Oper} (w0 : World) (hx : Ext w0 w) (hm : P.follows .mixedOrders = true) (hB : Region.lexB .any l.toArray = true)
    (h : wpQuiet P l.toArray (fun w' => ∃ y : XW w0, w' = y.w) (fun a' => ∀ w', (∃ y : XW w0, w' = y.w) → Q .normal a' w') l a) : (Code.region id l.toArray true).wp P Q a w :=
  wp_region_quiet (C := fun w' => ∃ y : XW w0, w' = y.w) hm hB ⟨⟨_, hx.drew⟩, rfl⟩ (by simpa using h)
theorem ext_calls {P : Program} {f : FuncId} {args : Array Value} {w0 : World} {y : XW w0} {v : Value} (h : Calls P f args y.w fun e w' => e = .returned v ∧ Ext y.w w') : Calls P f args y.w fun e w'' => e = .returned v ∧ ∃ z : XW w0, w'' = z.w :=
  h.mono fun _ w' ⟨he, hx⟩ => ⟨he, ⟨w', y.h.trans hx⟩, rfl⟩
theorem ext_calls_same {P : Program} {f : FuncId} {args : Array Value} {w0 : World} {y : XW w0} {v : Value} (h : Calls P f args y.w fun e w' => e = .returned v ∧ y.w = w') : Calls P f args y.w fun e w'' => e = .returned v ∧ ∃ z : XW w0, w'' = z.w :=
  h.mono fun _ _ ⟨he, hx⟩ => ⟨he, y, hx.symm⟩
theorem ext_calls_drewN {P : Program} {f : FuncId} {args : Array Value} {w0 : World} {y : XW w0} {v : Value} (h : Calls P f args y.w fun e w' => e = .returned v ∧ ∃ m, w' = y.w.drewN m) : Calls P f args y.w fun e w'' => e = .returned v ∧ ∃ z : XW w0, w'' = z.w :=
  h.mono fun _ _ ⟨he, m, hx⟩ => ⟨he, ⟨y.w.drewN m, y.h.drewN m⟩, hx⟩
end Go.Proofs.YtdkgphambjnbiaaDoor
