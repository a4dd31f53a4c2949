/-
  What is proved here: the library's symMerge at a row of events merges two parts that are in order, whatever their lengths. Conditions: at most a million events.
-/
import Derived.Test.YtmhkgfoimkonoaaDoorSoS7a
import Derived.Test.YtmhkgfoimkonoaaDoorSoS7b
namespace Go.Proofs.YtmhkgfoimkonoaaDoor
open Go Go.RowKit Go.Proofs
theorem sym_ok : ∀ N, SymOk N
  | 0 => fun g o n c S a m b P U V Q w _ _ _ _ _ _ _ h1 _ _ h9 => by omega
  | N + 1 => fun g o n c S a m b P U V Q w hr ha hm hb hn hU hV hu hv hmax hN => by
    have IH := sym_ok N
    by_cases h1 : U.length = 1
    · match U, h1 with
      | [x], _ =>
        refine (sym_A g o n c S a m b P V Q x w (by simpa using hr) ha (by simpa using hm) hb (by rw [← hn]; simp) hV hmax).mono ?_
        intro e w' h9
        simpa using h9
    · by_cases h2 : V.length = 1
      · match V, h2 with
        | [x], _ => exact sym_B g o n c S a m b P U Q x w (by simpa using hr) ha hm (by simpa using hb) (by rw [← hn]; simp) hU (by omega) hmax
      · by_cases h3 : (a + b) / 2 < m
        · exact sym_CA N IH g o n c S a m b P U V Q w ((a + b) / 2) ((a + b) / 2 + m - b) ((a + b) / 2) hr ha hn hU hV ⟨hm, hb, rfl, .inl ⟨h3, rfl, rfl⟩, hu, hv⟩ h3 rfl rfl (by omega) (by omega) hmax hN
        · exact sym_CB N IH g o n c S a m b P U V Q w ((a + b) / 2) a m hr ha hn hU hV ⟨hm, hb, rfl, .inr ⟨by omega, rfl, rfl⟩, hu, hv⟩ (by omega) rfl rfl (by omega) (by omega) hmax hN
theorem sym_merge (g o n c S a m b : Nat) (P U V Q : List Ev) (w : World) (hr : Row w g o S (P ++ U ++ V ++ Q)) (ha : P.length = a) (hm : a + U.length = m) (hb : m + V.length = b) (hn : (P ++ U ++ V ++ Q).length = n) (hU : Srt lessE U) (hV : Srt lessE V) (hu : 0 < U.length) (hv : 0 < V.length) (hmax : n ≤ 1000000) :
    Calls Tryd.prog 81 #[.slice (some ⟨g, o, none⟩) n c, .int .i64 (a : Int), .int .i64 (m : Int), .int .i64 (b : Int), .func (.func 33) #[] #[]] w (SymPost g o S P (U ++ V) Q w) :=
  sym_ok (U.length + V.length) g o n c S a m b P U V Q w hr ha hm hb hn hU hV hu hv hmax (Nat.le_refl _)
end Go.Proofs.YtmhkgfoimkonoaaDoor
