/-
  What is proved here: how a row of events lies in memory, and what a store of an event does to it. Conditions: none.
-/
import Derived.Test.YtmhkgfoimkonoaaDoorEvCmp
import Derived.Test.YtmhkgfoimkonoaaDoorSoP
namespace Go.Proofs.YtmhkgfoimkonoaaDoor
open Go Go.RowKit Go.Proofs
theorem lessE_swo : Swo lessE where
  asym := fun {a b} h => by
    rcases cmpE_cases a b with ⟨_, _, _, h4⟩ | ⟨_, _, h3, _⟩ | ⟨_, _, h3, _⟩
    · exact h4
    · rw [h] at h3; cases h3
    · rw [h] at h3; cases h3
  ntrans := fun {a b c} h1 h2 => by
    have e1 : cmpE b a ≤ 0 := by
      rcases cmpE_cases a b with ⟨_, _, h3, _⟩ | ⟨_, h2, _⟩ | ⟨_, h2, _⟩
      · rw [h1] at h3; cases h3
      · omega
      · omega
    have e2 : cmpE c b ≤ 0 := by
      rcases cmpE_cases b c with ⟨_, _, h3, _⟩ | ⟨_, h2', _⟩ | ⟨_, h2', _⟩
      · rw [h2] at h3; cases h3
      · omega
      · omega
    have e3 := (cmpE_trans e2 e1).1
    rcases cmpE_cases a c with ⟨_, h2', _⟩ | ⟨_, _, h3, _⟩ | ⟨_, _, h3, _⟩
    · omega
    · exact h3
    · exact h3
theorem cmpE_neg {a b : Ev} : decide (cmpE a b < 0) = lessE a b := by
  rcases cmpE_cases a b with ⟨h1, _, h3, _⟩ | ⟨h1, _, h3, _⟩ | ⟨h1, _, h3, _⟩ <;> rw [h1, h3] <;> rfl
/-- A row of events: block g, from cell o on, S cells in all. -/
def Row (w : World) (g o S : Nat) (d : List Ev) : Prop :=
  ∃ C : Array Value, w.heap[g]? = some (.cells C 30) ∧ C.size = S ∧ ∀ (k : Nat) (e : Ev), d[k]? = some e → ∀ (j : Nat) (v : Value), (evL e)[j]? = some v → C[o + k * 8 + j]? = some v
def put8 (C : Array Value) (p : Nat) (e : Ev) : Array Value :=
  (((((((C.setIfInBounds p (.string e.src)).setIfInBounds (p + 1) (.int .i64 e.num)).setIfInBounds (p + 2) (.int .i64 e.tick)).setIfInBounds (p + 3) (.int .i64 e.kind)).setIfInBounds (p + 4) (.string e.person)).setIfInBounds (p + 5) (.string e.item)).setIfInBounds (p + 6) (.int .i64 e.value)).setIfInBounds (p + 7) (.string e.text)
theorem put8_size (C : Array Value) (p : Nat) (e : Ev) : (put8 C p e).size = C.size := by simp [put8]
theorem put8_in {C : Array Value} {p : Nat} {e : Ev} {j : Nat} (hj : j < 8) (hs : p + 8 ≤ C.size) : (put8 C p e)[p + j]? = (evL e)[j]? := by
  have h8 : j = 0 ∨ j = 1 ∨ j = 2 ∨ j = 3 ∨ j = 4 ∨ j = 5 ∨ j = 6 ∨ j = 7 := by omega
  have g0 : p < C.size := by omega
  have g1 : p + 1 < C.size := by omega
  have g2 : p + 2 < C.size := by omega
  have g3 : p + 3 < C.size := by omega
  have g4 : p + 4 < C.size := by omega
  have g5 : p + 5 < C.size := by omega
  have g6 : p + 6 < C.size := by omega
  have g7 : p + 7 < C.size := by omega
  rcases h8 with rfl | rfl | rfl | rfl | rfl | rfl | rfl | rfl <;> simp [put8, evL, g0, g1, g2, g3, g4, g5, g6, g7]
theorem put8_out {C : Array Value} {p : Nat} {e : Ev} {q : Nat} (hq : q < p ∨ p + 8 ≤ q) : (put8 C p e)[q]? = C[q]? := by
  have n0 : p ≠ q := by omega
  have n1 : p + 1 ≠ q := by omega
  have n2 : p + 2 ≠ q := by omega
  have n3 : p + 3 ≠ q := by omega
  have n4 : p + 4 ≠ q := by omega
  have n5 : p + 5 ≠ q := by omega
  have n6 : p + 6 ≠ q := by omega
  have n7 : p + 7 ≠ q := by omega
  simp [put8, n0, n1, n2, n3, n4, n5, n6, n7]
def set8 (w : World) (g p : Nat) (e : Ev) : World :=
  (((((((w.setCell ⟨g, p, none⟩ (.string e.src)).setCell ⟨g, p + 1, none⟩ (.int .i64 e.num)).setCell ⟨g, p + 2, none⟩ (.int .i64 e.tick)).setCell ⟨g, p + 3, none⟩ (.int .i64 e.kind)).setCell ⟨g, p + 4, none⟩ (.string e.person)).setCell ⟨g, p + 5, none⟩ (.string e.item)).setCell ⟨g, p + 6, none⟩ (.int .i64 e.value)).setCell ⟨g, p + 7, none⟩ (.string e.text)
theorem set8_blk {w : World} {g p : Nat} {e : Ev} {C : Array Value} {t : TypeId} {fr : Nat × Nat} (h : w.heap[g]? = some (.cells C t fr)) : (set8 w g p e).heap[g]? = some (.cells (put8 C p e) t fr) :=
  blk_set (blk_set (blk_set (blk_set (blk_set (blk_set (blk_set (blk_set h _ _) _ _) _ _) _ _) _ _) _ _) _ _) _ _
theorem set8_keeps {w : World} {g p : Nat} {e : Ev} : Keeps (fun k => k ≠ g) w (set8 w g p e) := by
  unfold set8
  repeat (first | with_reducible exact Keeps.refl _ _ | with_reducible refine Keeps.setCell ?_ (fun _ h => absurd rfl h) _)
theorem Row.cells {w : World} {g o S : Nat} {d : List Ev} (h : Row w g o S d) {k : Nat} {e : Ev} (hk : d[k]? = some e) :
    w.cell? ⟨g, o + k * 8, none⟩ = some (.string e.src) ∧ w.cell? ⟨g, o + k * 8 + 1, none⟩ = some (.int .i64 e.num) ∧ w.cell? ⟨g, o + k * 8 + 2, none⟩ = some (.int .i64 e.tick) ∧ w.cell? ⟨g, o + k * 8 + 3, none⟩ = some (.int .i64 e.kind) ∧
    w.cell? ⟨g, o + k * 8 + 4, none⟩ = some (.string e.person) ∧ w.cell? ⟨g, o + k * 8 + 5, none⟩ = some (.string e.item) ∧ w.cell? ⟨g, o + k * 8 + 6, none⟩ = some (.int .i64 e.value) ∧ w.cell? ⟨g, o + k * 8 + 7, none⟩ = some (.string e.text) := by
  obtain ⟨C, hg, _, hc⟩ := h
  have c := fun j v hj => blk_cell hg (o + k * 8 + j) (hc k e hk j v hj)
  exact ⟨c 0 _ rfl, c 1 _ rfl, c 2 _ rfl, c 3 _ rfl, c 4 _ rfl, c 5 _ rfl, c 6 _ rfl, c 7 _ rfl⟩
theorem Row.free {w : World} {g o S : Nat} {d : List Ev} (h : Row w g o S d) (j : Nat) : w.frozen? ⟨g, j, none⟩ = false := by
  obtain ⟨C, hg, _, _⟩ := h
  exact blk_free hg j
theorem Row.lt {w : World} {g o S : Nat} {d : List Ev} (h : Row w g o S d) : g < w.heap.size := by
  obtain ⟨C, hg, _, _⟩ := h
  exact (Array.getElem?_eq_some_iff.1 hg).1
theorem Row.keep {w w' : World} {g o S : Nat} {d : List Ev} {ok : Nat → Prop} (h : Row w g o S d) (hk : Keeps ok w w') (ho : ok g) : Row w' g o S d := by
  obtain ⟨C, hg, hs, hc⟩ := h
  exact ⟨C, hk.blk hg ho, hs, hc⟩
theorem Row.ext {w w' : World} {g o S : Nat} {d : List Ev} (h : Row w g o S d) (hk : Ext w w') : Row w' g o S d := h.keep hk trivial
theorem Row.set {w : World} {g o S : Nat} {d : List Ev} (h : Row w g o S d) {k : Nat} (hk : k < d.length) (e : Ev) : Row (set8 w g (o + k * 8) e) g o S (d.set k e) := by
  obtain ⟨C, hg, hs, hc⟩ := h
  have h7 := hc k d[k] (List.getElem?_eq_getElem hk) 7 _ rfl
  have h7' : o + k * 8 + 7 < C.size := (Array.getElem?_eq_some_iff.1 h7).1
  refine ⟨put8 C (o + k * 8) e, set8_blk hg, by rw [put8_size]; exact hs, fun k' e' hk' j v hj => ?_⟩
  have hj8 : j < 8 := (List.getElem?_eq_some_iff.1 hj).1
  rw [List.getElem?_set] at hk'
  by_cases h1 : k = k'
  · subst h1
    rw [if_pos rfl, if_pos hk] at hk'
    have he : e = e' := Option.some.inj hk'
    rw [← he] at hj
    exact (put8_in (C := C) (p := o + k * 8) (e := e) hj8 (by omega)).trans hj
  · rw [if_neg h1] at hk'
    exact (put8_out (C := C) (p := o + k * 8) (e := e) (by omega)).trans (hc k' e' hk' j v hj)
/-- Two events change places. -/
theorem set_swap {P M R : List Ev} {x y : Ev} {i j : Nat} (hi : P.length = i) (hj : i + 1 + M.length = j) : ((P ++ x :: M ++ y :: R).set i y).set j x = P ++ y :: M ++ x :: R := by
  subst hi hj
  have h1 : (P ++ x :: M ++ y :: R).set P.length y = P ++ y :: M ++ y :: R := by simp
  rw [h1]
  have h2 : (P ++ y :: M).length = P.length + 1 + M.length := by simp; omega
  rw [← h2]; simp
theorem set_swap' {P M R : List Ev} {x y : Ev} {i j : Nat} (hi : P.length = i) (hj : i + 1 + M.length = j) : ((P ++ x :: M ++ y :: R).set j x).set i y = P ++ y :: M ++ x :: R := by
  rw [List.set_comm _ _ (by omega)]; exact set_swap hi hj
end Go.Proofs.YtmhkgfoimkonoaaDoor
