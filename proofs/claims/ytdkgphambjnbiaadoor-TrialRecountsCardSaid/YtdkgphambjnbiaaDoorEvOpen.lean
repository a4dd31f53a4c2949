/-
  What is proved here: an event that comes in is opened; what the listed variables hold, and that the library's own variable holds some number; the wrap of a walk that needs both. No condition.
-/
import Derived.Test.YtdkgphambjnbiaaDoorOpenW
import Derived.Test.YtdkgphambjnbiaaDoorEvMay
import Derived.HandedShaped
import Derived.OpenShut
import Derived.Shelf.Vars
namespace Go.Proofs.YtdkgphambjnbiaaDoor
open Go Go.RowKit Go.Proofs Go.Deep Go.ChangeShapes Go.WideShapes

/-- The plain wrap, with a condition on the world, and the world's shape kept. -/
theorem handed_and_shaped {H : Type} {enc : TypeId × Value → H} {a : Assume} {C : Checked} {os : Os} {f : FuncId} {fn : Func} {s : ChangeSpec} {conds : List PathCond} {apart fresh handsOn again : Bool} {X : World → Array Value → Prop}
    (hX : ∀ (w w' : World) (args : Array Value), w.heap = w'.heap → X w args → X w' args)
    (own : ownKnob C.prog.godebug = none) (started : os.Started) (noInit : C.prog.inits.idxOf? f = none) (hfn : C.prog.funcs[f]? = some fn)
    (witness : ∃ (w : World) (tape : Tape) (i : Input), w.os = os ∧ (w.forCall tape i).Shaped C.prog ∧ i.vars = [] ∧ Input.okWide C.prog (w.forCall tape i) .any w.heap.size f i ∧
      ((s.pre enc C.prog fn conds apart (w.forCall tape i).memory i.args ∧ X (w.forCall tape i).memory i.args) ∧ sizedMet enc C.prog fn (OpenSpec.ofChange s) apart (w.forCall tape i).memory i.args) ∧ a.holds C.prog (lone (Frame.enter C.prog f i.args .normal) [] (w.forCall tape i)))
    (contract : ∀ (W : World) (base : Nat) (args : Array Value) (ds gs : List (DataW H)) (before : List MemPlace),
      (∀ (j : Nat) t v, fn.params[j]? = some t → args[j]? = some v → Value.okWide C.prog W .any base t v) →
      DataW.Whole enc C.prog fn.params.toList s.vars apart W args.toList ds gs before →
      (DataW.weightsEach C.prog (fn.params.toList ++ s.plain.varTypes C.prog) (ds ++ gs)).all (· ≤ reachBytes) = true → X W args → W.ShapedOpen C.prog →
      Calls C.prog f args W fun e W' => ∃ v, e = .returned v ∧ s.post enc C.prog fn apart fresh handsOn again W args v W') :
    ReturnsInHanded a C os f .any (fun w args => (s.pre enc C.prog fn conds apart w args ∧ X w args) ∧ sizedMet enc C.prog fn (OpenSpec.ofChange s) apart w args) (s.post enc C.prog fn apart fresh handsOn again) := by
  refine returnsInHanded_of_calls own started noInit witness ?_
  intro w tape i _ hsh _ hok hpre _
  obtain ⟨_, _, _, fn', hfn', _, _, _, _, hval⟩ := hok
  obtain rfl : fn' = fn := Option.some.inj (hfn'.symm.trans hfn)
  obtain ⟨⟨⟨ds, gs, before, hw, _⟩, hx⟩, hz⟩ := hpre
  refine (contract (w.forCall tape i) w.heap.size i.args ds gs before hval (DataW.Whole.of_heap (by rfl) hw) (hz.weights hw) (hX _ _ _ (by rfl) hx) hsh).mono fun e W' ⟨v, he, hp⟩ => ?_
  subst he
  exact ChangeSpec.post_blind hp

theorem mx_of_shaped {W : World} (h : W.ShapedOpen Tryd.prog) : Mx W :=
  Go.Proofs.cell_of_shapedOpen_int (zero := #[.int .i64 0]) (t := 3) h (of_decide_eq_true (by kernel_rfl)) (by kernel_rfl) rfl (by kernel_rfl) (by kernel_rfl) Tryd.underlying3

section
variable {H : Type} {enc : TypeId × Value → H} {W : World} {sp : Nat → Bool} {held : Bool}
theorem cells_evs : Tryd.prog.cellsOf 62 = 8 := by kernel_rfl
theorem cells_strv : Tryd.prog.cellsOf 9 = 1 := by kernel_rfl
theorem cells_intv : Tryd.prog.cellsOf 3 = 1 := by kernel_rfl
theorem cells_kind : Tryd.prog.cellsOf 60 = 1 := by kernel_rfl
theorem bytes_ev : 1 ≤ Tryd.prog.bytesOf 62 := by rw [show Tryd.prog.bytesOf 62 = 96 by kernel_rfl]; decide
structure EvIn (e : Ev) : Prop where
  wf : EvWf e
  num : (Lit.int .i64 e.num).wf = true
  tick : (Lit.int .i64 e.tick).wf = true
  kind : (Lit.int .i64 e.kind).wf = true
  value : (Lit.int .i64 e.value).wf = true
set_option maxRecDepth 100000 in
theorem open_ev {base : Nat} {fuel : Nat} {cs : List Value} {x : DataW H × List MemPlace} (hl : cs.length = 8) (hx : DataW.trod enc Tryd.prog W base sp held fuel 62 cs = some x) (hlim : Lim Tryd.prog 62 x.1) :
    ∃ e, EvIn e ∧ evR.rep (fun k => k < W.heap.size) W e cs := by
  obtain ⟨xs, n', _, hxx, _, _, hf⟩ := DataW.trod_struct Tryd.underlying62 hx
  rw [hxx] at hlim
  match cs, hl with
  | [c0, c1, c2, c3, c4, c5, c6, c7], _ =>
    have l : xs.length = 8 := by assumption
    match xs, l with
    | [y0, y1, y2, y3, y4, y5, y6, y7], _ =>
      have g0 : DataW.trod enc Tryd.prog W base sp held n' 9 (([c0, c1, c2, c3, c4, c5, c6, c7].drop 0).take (Tryd.prog.cellsOf 9)) = some y0 := hf 0 _ rfl
      rw [cells_strv] at g0
      replace g0 : DataW.trod enc Tryd.prog W base sp held n' 9 [c0] = some y0 := g0
      have g1 : DataW.trod enc Tryd.prog W base sp held n' 3 (([c0, c1, c2, c3, c4, c5, c6, c7].drop 1).take (Tryd.prog.cellsOf 3)) = some y1 := hf 1 _ rfl
      rw [cells_intv] at g1
      replace g1 : DataW.trod enc Tryd.prog W base sp held n' 3 [c1] = some y1 := g1
      have g2 : DataW.trod enc Tryd.prog W base sp held n' 3 (([c0, c1, c2, c3, c4, c5, c6, c7].drop 2).take (Tryd.prog.cellsOf 3)) = some y2 := hf 2 _ rfl
      rw [cells_intv] at g2
      replace g2 : DataW.trod enc Tryd.prog W base sp held n' 3 [c2] = some y2 := g2
      have g3 : DataW.trod enc Tryd.prog W base sp held n' 60 (([c0, c1, c2, c3, c4, c5, c6, c7].drop 3).take (Tryd.prog.cellsOf 60)) = some y3 := hf 3 _ rfl
      rw [cells_kind] at g3
      replace g3 : DataW.trod enc Tryd.prog W base sp held n' 60 [c3] = some y3 := g3
      have g4 : DataW.trod enc Tryd.prog W base sp held n' 9 (([c0, c1, c2, c3, c4, c5, c6, c7].drop 4).take (Tryd.prog.cellsOf 9)) = some y4 := hf 4 _ rfl
      rw [cells_strv] at g4
      replace g4 : DataW.trod enc Tryd.prog W base sp held n' 9 [c4] = some y4 := g4
      have g5 : DataW.trod enc Tryd.prog W base sp held n' 9 (([c0, c1, c2, c3, c4, c5, c6, c7].drop 5).take (Tryd.prog.cellsOf 9)) = some y5 := hf 5 _ rfl
      rw [cells_strv] at g5
      replace g5 : DataW.trod enc Tryd.prog W base sp held n' 9 [c5] = some y5 := g5
      have g6 : DataW.trod enc Tryd.prog W base sp held n' 3 (([c0, c1, c2, c3, c4, c5, c6, c7].drop 6).take (Tryd.prog.cellsOf 3)) = some y6 := hf 6 _ rfl
      rw [cells_intv] at g6
      replace g6 : DataW.trod enc Tryd.prog W base sp held n' 3 [c6] = some y6 := g6
      have g7 : DataW.trod enc Tryd.prog W base sp held n' 9 (([c0, c1, c2, c3, c4, c5, c6, c7].drop 7).take (Tryd.prog.cellsOf 9)) = some y7 := hf 7 _ rfl
      rw [cells_strv] at g7
      replace g7 : DataW.trod enc Tryd.prog W base sp held n' 9 [c7] = some y7 := g7
      have m0 : Lim Tryd.prog 9 y0.1 := lim_part Tryd.underlying62 hlim (j := 0) rfl rfl
      obtain ⟨s0, e0, v0, _⟩ := DataW.trod_string Tryd.underlying9 g0
      rw [v0] at m0
      obtain ⟨z1, e1, _, w1⟩ := DataW.trod_int Tryd.underlying3 g1
      obtain ⟨z2, e2, _, w2⟩ := DataW.trod_int Tryd.underlying3 g2
      obtain ⟨z3, e3, _, w3⟩ := DataW.trod_int Tryd.underlying60 g3
      have m4 : Lim Tryd.prog 9 y4.1 := lim_part Tryd.underlying62 hlim (j := 4) rfl rfl
      obtain ⟨s4, e4, v4, _⟩ := DataW.trod_string Tryd.underlying9 g4
      rw [v4] at m4
      have m5 : Lim Tryd.prog 9 y5.1 := lim_part Tryd.underlying62 hlim (j := 5) rfl rfl
      obtain ⟨s5, e5, v5, _⟩ := DataW.trod_string Tryd.underlying9 g5
      rw [v5] at m5
      obtain ⟨z6, e6, _, w6⟩ := DataW.trod_int Tryd.underlying3 g6
      have m7 : Lim Tryd.prog 9 y7.1 := lim_part Tryd.underlying62 hlim (j := 7) rfl rfl
      obtain ⟨s7, e7, v7, _⟩ := DataW.trod_string Tryd.underlying9 g7
      rw [v7] at m7
      simp only [List.cons.injEq, and_true] at e0 e1 e2 e3 e4 e5 e6 e7
      subst e0 e1 e2 e3 e4 e5 e6 e7
      exact ⟨⟨s0, z1, z2, z3, s4, s5, z6, s7⟩, ⟨⟨lim_str m0, lim_str m4, lim_str m5, lim_str m7⟩, w1, w2, w3, w6⟩, rfl⟩
theorem open_evs {base : Nat} {fuel : Nat} {cs : List Value} {x : DataW H × List MemPlace} (h : DataW.trod enc Tryd.prog W base sp held fuel 35 cs = some x) (hlim : Lim Tryd.prog 35 x.1) :
    ∃ (A : Option Addr) (n c : Nat) (l : List Ev), cs = [.slice A n c] ∧ n ≤ c ∧ c ≤ maxLen ∧ n ≤ 140737488355328 ∧ Sl evR (fun k => k < W.heap.size) W A n l ∧ ∀ a ∈ l, EvIn a :=
  open_Sl (R := evR) (good := EvIn) Tryd.underlying35 cells_evs (by decide) (fun _ _ _ hl hx hm => open_ev hl hx hm) h hlim bytes_ev
end
end Go.Proofs.YtdkgphambjnbiaaDoor
