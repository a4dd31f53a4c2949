/-
  What is proved here: a trial that comes in is opened. No condition.
-/
import Derived.Test.YtdkgphambjnbiaaDoorOpenW
import Derived.Test.YtdkgphambjnbiaaDoorTrMay
namespace Go.Proofs.YtdkgphambjnbiaaDoor
open Go Go.RowKit Go.Proofs Go.Deep Go.ChangeShapes Go.WideShapes

section
variable {H : Type} {enc : TypeId × Value → H} {W : World} {sp : Nat → Bool} {held : Bool}
theorem cells_tr : Tryd.prog.cellsOf 24 = 5 := by kernel_rfl
theorem cells_str : Tryd.prog.cellsOf 9 = 1 := by kernel_rfl
theorem cells_strs : Tryd.prog.cellsOf 22 = 1 := by kernel_rfl
theorem cells_int : Tryd.prog.cellsOf 3 = 1 := by kernel_rfl
theorem bytes_str : 1 ≤ Tryd.prog.bytesOf 9 := by rw [show Tryd.prog.bytesOf 9 = 16 by kernel_rfl]; decide
theorem bytes_tr : 1 ≤ Tryd.prog.bytesOf 24 := by rw [show Tryd.prog.bytesOf 24 = 72 by kernel_rfl]; decide
structure TrIn (t : Tr) : Prop where
  wf : TrWf t
  lo : (Lit.int .i64 t.lo).wf = true
  hi : (Lit.int .i64 t.hi).wf = true
set_option maxRecDepth 100000 in
theorem open_tr {base : Nat} {fuel : Nat} {cs : List Value} {x : DataW H × List MemPlace} (hl : cs.length = 5) (hx : DataW.trod enc Tryd.prog W base sp held fuel 24 cs = some x) (hlim : Lim Tryd.prog 24 x.1) :
    ∃ t, TrIn t ∧ trR.rep (fun k => k < W.heap.size) W t cs := by
  obtain ⟨xs, n', _, hxx, _, _, hf⟩ := DataW.trod_struct Tryd.underlying24 hx
  rw [hxx] at hlim
  match cs, hl with
  | [c0, c1, c2, c3, c4], _ =>
    have l : xs.length = 5 := by assumption
    match xs, l with
    | [y0, y1, y2, y3, y4], _ =>
      have g0 : DataW.trod enc Tryd.prog W base sp held n' 9 (([c0, c1, c2, c3, c4].drop 0).take (Tryd.prog.cellsOf 9)) = some y0 := hf 0 _ rfl
      rw [cells_str] at g0
      replace g0 : DataW.trod enc Tryd.prog W base sp held n' 9 [c0] = some y0 := g0
      have g1 : DataW.trod enc Tryd.prog W base sp held n' 9 (([c0, c1, c2, c3, c4].drop 1).take (Tryd.prog.cellsOf 9)) = some y1 := hf 1 _ rfl
      rw [cells_str] at g1
      replace g1 : DataW.trod enc Tryd.prog W base sp held n' 9 [c1] = some y1 := g1
      have g2 : DataW.trod enc Tryd.prog W base sp held n' 3 (([c0, c1, c2, c3, c4].drop 2).take (Tryd.prog.cellsOf 3)) = some y2 := hf 2 _ rfl
      rw [cells_int] at g2
      replace g2 : DataW.trod enc Tryd.prog W base sp held n' 3 [c2] = some y2 := g2
      have g3 : DataW.trod enc Tryd.prog W base sp held n' 3 (([c0, c1, c2, c3, c4].drop 3).take (Tryd.prog.cellsOf 3)) = some y3 := hf 3 _ rfl
      rw [cells_int] at g3
      replace g3 : DataW.trod enc Tryd.prog W base sp held n' 3 [c3] = some y3 := g3
      have g4 : DataW.trod enc Tryd.prog W base sp held n' 22 (([c0, c1, c2, c3, c4].drop 4).take (Tryd.prog.cellsOf 22)) = some y4 := hf 4 _ rfl
      rw [cells_strs] at g4
      replace g4 : DataW.trod enc Tryd.prog W base sp held n' 22 [c4] = some y4 := g4
      have m0 : Lim Tryd.prog 9 y0.1 := lim_part Tryd.underlying24 hlim (j := 0) rfl rfl
      have m1 : Lim Tryd.prog 9 y1.1 := lim_part Tryd.underlying24 hlim (j := 1) rfl rfl
      have m4 : Lim Tryd.prog 22 y4.1 := lim_part Tryd.underlying24 hlim (j := 4) rfl rfl
      obtain ⟨s0, e0, v0, w0⟩ := DataW.trod_string Tryd.underlying9 g0
      obtain ⟨s1, e1, v1, w1⟩ := DataW.trod_string Tryd.underlying9 g1
      obtain ⟨z2, e2, _, w2⟩ := DataW.trod_int Tryd.underlying3 g2
      obtain ⟨z3, e3, _, w3⟩ := DataW.trod_int Tryd.underlying3 g3
      obtain ⟨A, m, c, l, e4, hmc, hcm, hm47, hs, hss⟩ := open_strs Tryd.underlying22 Tryd.underlying9 cells_str bytes_str g4 m4
      rw [v0] at m0
      rw [v1] at m1
      simp only [List.cons.injEq, and_true] at e0 e1 e2 e3 e4
      subst e0 e1 e2 e3 e4
      have hlm : l.length = m := hs.1
      refine ⟨⟨s0, s1, z2, z3, l⟩, ⟨⟨lim_str m0, lim_str m1, by show l.length ≤ _; omega, hss⟩, w2, w3⟩, A, c, ?_, by show l.length ≤ _; omega, by show Sl strR _ W A l.length l; rw [hlm]; exact hs⟩
      show [_, _, _, _, Value.slice A m c] = [_, _, _, _, Value.slice A l.length c]
      rw [hlm]
theorem open_trs {base : Nat} {fuel : Nat} {cs : List Value} {x : DataW H × List MemPlace} (h : DataW.trod enc Tryd.prog W base sp held fuel 27 cs = some x) (hlim : Lim Tryd.prog 27 x.1) :
    ∃ (A : Option Addr) (n c : Nat) (l : List Tr), cs = [.slice A n c] ∧ n ≤ c ∧ c ≤ maxLen ∧ n ≤ 140737488355328 ∧ Sl trR (fun k => k < W.heap.size) W A n l ∧ ∀ a ∈ l, TrIn a :=
  open_Sl (R := trR) (good := TrIn) Tryd.underlying27 cells_tr (by decide) (fun _ _ _ hl hx hm => open_tr hl hx hm) h hlim bytes_tr
end
end Go.Proofs.YtdkgphambjnbiaaDoor
