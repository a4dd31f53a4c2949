/-
  What is defined and proved here: how exposures lie in memory; a slice of them that comes in is opened. No condition.
-/
import Derived.Test.YtdkgphambjnbiaaDoorTrSn
import Derived.Test.YtdkgphambjnbiaaDoorOpenT
namespace Go.Proofs.YtdkgphambjnbiaaDoor
open Go Go.RowKit Go.Proofs Go.Deep Go.ChangeShapes Go.WideShapes
def xpR : Rep Xp where
  size := 3
  rep _ _ x xs := xs = [.string x.trial, .string x.person, .int .i64 x.tick]
  len h := by subst h; rfl
  one h u hu := by
    subst h
    simp at hu
    rcases hu with rfl | rfl | rfl <;> rfl
  keep _ h := h
  mono _ h := h
theorem xpR_flat : xpR.flat := fun _ _ _ _ _ _ h => h
section
variable {ok : Nat → Prop} {w w' : World} {A : Option Addr} {n : Nat}
theorem Sl.xp {l : List Xp} (h : Sl xpR ok w A n l) {k : Nat} (hk : k < n) : ∃ (b o : Nat) (x : Xp), A = some ⟨b, o, none⟩ ∧ b < w.heap.size ∧ ok b ∧ l[k]? = some x ∧
    w.cell? ⟨b, o + k * 3, none⟩ = some (.string x.trial) ∧ w.cell? ⟨b, o + k * 3 + 1, none⟩ = some (.string x.person) ∧ w.cell? ⟨b, o + k * 3 + 2, none⟩ = some (.int .i64 x.tick) := by
  obtain ⟨b, o, x, xs, rfl, hb, ho, he, rfl, hc⟩ := h.at_ hk
  exact ⟨b, o, x, rfl, hb, ho, he, hc 0 _ rfl, hc 1 _ rfl, hc 2 _ rfl⟩
end
section
variable {H : Type} {enc : TypeId × Value → H} {W : World} {sp : Nat → Bool} {held : Bool}
theorem cells_xp : Tryd.prog.cellsOf 43 = 3 := by kernel_rfl
theorem bytes_xp : 1 ≤ Tryd.prog.bytesOf 43 := by rw [show Tryd.prog.bytesOf 43 = 40 by kernel_rfl]; decide
structure XpIn (x : Xp) : Prop where
  trial : x.trial.size ≤ 140737488355328
  person : x.person.size ≤ 140737488355328
  tick : (Lit.int .i64 x.tick).wf = true
set_option maxRecDepth 100000 in
theorem open_xp {base : Nat} {fuel : Nat} {cs : List Value} {x : DataW H × List MemPlace} (hl : cs.length = 3) (hx : DataW.trod enc Tryd.prog W base sp held fuel 43 cs = some x) (hlim : Lim Tryd.prog 43 x.1) :
    ∃ t, XpIn t ∧ xpR.rep (fun k => k < W.heap.size) W t cs := by
  obtain ⟨xs, n', _, hxx, _, _, hf⟩ := DataW.trod_struct Tryd.underlying43 hx
  rw [hxx] at hlim
  match cs, hl with
  | [c0, c1, c2], _ =>
    have l : xs.length = 3 := by assumption
    match xs, l with
    | [y0, y1, y2], _ =>
      have g0 : DataW.trod enc Tryd.prog W base sp held n' 9 (([c0, c1, c2].drop 0).take (Tryd.prog.cellsOf 9)) = some y0 := hf 0 _ rfl
      rw [cells_str] at g0
      replace g0 : DataW.trod enc Tryd.prog W base sp held n' 9 [c0] = some y0 := g0
      have g1 : DataW.trod enc Tryd.prog W base sp held n' 9 (([c0, c1, c2].drop 1).take (Tryd.prog.cellsOf 9)) = some y1 := hf 1 _ rfl
      rw [cells_str] at g1
      replace g1 : DataW.trod enc Tryd.prog W base sp held n' 9 [c1] = some y1 := g1
      have g2 : DataW.trod enc Tryd.prog W base sp held n' 3 (([c0, c1, c2].drop 2).take (Tryd.prog.cellsOf 3)) = some y2 := hf 2 _ rfl
      rw [cells_int] at g2
      replace g2 : DataW.trod enc Tryd.prog W base sp held n' 3 [c2] = some y2 := g2
      have m0 : Lim Tryd.prog 9 y0.1 := lim_part Tryd.underlying43 hlim (j := 0) rfl rfl
      have m1 : Lim Tryd.prog 9 y1.1 := lim_part Tryd.underlying43 hlim (j := 1) rfl rfl
      obtain ⟨s0, e0, v0, w0⟩ := DataW.trod_string Tryd.underlying9 g0
      obtain ⟨s1, e1, v1, w1⟩ := DataW.trod_string Tryd.underlying9 g1
      obtain ⟨z2, e2, _, w2⟩ := DataW.trod_int Tryd.underlying3 g2
      rw [v0] at m0
      rw [v1] at m1
      simp only [List.cons.injEq, and_true] at e0 e1 e2
      subst e0 e1 e2
      exact ⟨⟨s0, s1, z2⟩, ⟨lim_str m0, lim_str m1, w2⟩, rfl⟩
theorem open_exps {base : Nat} {fuel : Nat} {cs : List Value} {x : DataW H × List MemPlace} (h : DataW.trod enc Tryd.prog W base sp held fuel 34 cs = some x) (hlim : Lim Tryd.prog 34 x.1) :
    ∃ (A : Option Addr) (n c : Nat) (l : List Xp), cs = [.slice A n c] ∧ n ≤ c ∧ c ≤ maxLen ∧ n ≤ 140737488355328 ∧ Sl xpR (fun k => k < W.heap.size) W A n l ∧ ∀ a ∈ l, XpIn a :=
  open_Sl (R := xpR) (good := XpIn) Tryd.underlying34 cells_xp (by decide) (fun _ _ _ hl hx hm => open_xp hl hx hm) h hlim bytes_xp
end
end Go.Proofs.YtdkgphambjnbiaaDoor
