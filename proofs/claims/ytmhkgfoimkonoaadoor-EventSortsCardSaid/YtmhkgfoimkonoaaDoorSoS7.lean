/-
  What is proved here: the library's symMerge at a row of events (definitions). Conditions: at most a million events.
-/
import Derived.Test.YtmhkgfoimkonoaaDoorSoS6
namespace Go.Proofs.YtmhkgfoimkonoaaDoor
open Go Go.RowKit Go.Proofs
attribute [local go_sem ↓] Go.wp_at_zero Go.wp_at_succ
def SymOk (N : Nat) : Prop := ∀ (g o n c S a m b : Nat) (P U V Q : List Ev) (w : World), Row w g o S (P ++ U ++ V ++ Q) → P.length = a → a + U.length = m → m + V.length = b → (P ++ U ++ V ++ Q).length = n → Srt lessE U → Srt lessE V → 0 < U.length → 0 < V.length → n ≤ 1000000 → U.length + V.length ≤ N →
  Calls Tryd.prog 81 #[.slice (some ⟨g, o, none⟩) n c, .int .i64 (a : Int), .int .i64 (m : Int), .int .i64 (b : Int), .func (.func 33) #[] #[]] w (SymPost g o S P (U ++ V) Q w)
theorem row_lo {P U V Q : List Ev} {a t : Nat} {x : Ev} (ha : P.length = a) (h1 : a ≤ t) (hx : U[t - a]? = some x) : (P ++ U ++ V ++ Q)[t]? = some x := by
  have hl := (List.getElem?_eq_some_iff.1 hx).1
  rw [List.append_assoc, List.append_assoc, List.getElem?_append_right (by omega), ha, List.getElem?_append_left hl]
  exact hx
theorem row_hi {P U V Q : List Ev} {m t : Nat} {x : Ev} (hm : (P ++ U).length = m) (h1 : m ≤ t) (hx : V[t - m]? = some x) : (P ++ U ++ V ++ Q)[t]? = some x := by
  have hl := (List.getElem?_eq_some_iff.1 hx).1
  rw [List.append_assoc, List.getElem?_append_right (by omega), hm, List.getElem?_append_left hl]
  exact hx
end Go.Proofs.YtmhkgfoimkonoaaDoor
