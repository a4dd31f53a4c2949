/-
  What is proved here: an argument that is a slice, of strings or of records, is opened: what it holds as a plain list; no text is longer than what the form lets in. No condition.
  an event that comes in is opened; what the listed variables hold, and that the library's own variable holds some number; the wrap of a walk that needs both. No condition.
  what the listed variables hold, of the law's condition. No condition.
-/
import Derived.Test.YtpkkkhgmkndpdaaGreatDoorBase
import Derived.Test.YtpkkkhgmkndpdaaGreatDoorRows
import Derived.Deep.Slices
import Derived.Deep.Fields
import Derived.ChangeArms
import Derived.ProofKit
import Derived.MakeChecks
import Derived.Test.YtpkkkhgmkndpdaaGreatDoorEvMay
import Derived.HandedShaped
import Derived.OpenShut
import Derived.Shelf.Vars
import Derived.Test.YtpkkkhgmkndpdaaGreatDoorEvFmt
import Derived.Lib.LaidTab
namespace Go.Proofs.YtpkkkhgmkndpdaaGreatDoor
open Go Go.RowKit Go.Proofs Go.Deep Go.ChangeShapes Go.WideShapes

section
variable {H : Type} {P : Program}
theorem weightsAll_mem {e : TypeId} {d : DataW H} {n : Nat} : ∀ {l : List (DataW H)}, d ∈ l → n ∈ d.weights P e → n ∈ DataW.weightsAll P e l
  | x :: l, hd, hn => by
    simp only [DataW.weightsAll, List.mem_append]
    rcases List.mem_cons.1 hd with h | h
    · subst h; exact .inl hn
    · exact .inr (weightsAll_mem h hn)
theorem weightsEach_mem {t : TypeId} {d : DataW H} {n : Nat} : ∀ {ts : List TypeId} {ds : List (DataW H)} {j : Nat}, ts[j]? = some t → ds[j]? = some d → n ∈ d.weights P t → n ∈ DataW.weightsEach P ts ds
  | x :: ts, y :: ds, j, h1, h2, hn => by
    simp only [DataW.weightsEach, List.mem_append]
    cases j with
    | zero => simp at h1 h2; subst h1 h2; exact .inl hn
    | succ j => exact .inr (weightsEach_mem (j := j) (by simpa using h1) (by simpa using h2) hn)
  | [], _, _, h1, _, _ => by simp at h1
  | _ :: _, [], _, _, h2, _ => by simp at h2
/-- No part is greater than what the form lets in. -/
def Lim (P : Program) (t : TypeId) (d : DataW H) : Prop := ∀ n ∈ d.weights P t, n ≤ reachBytes
theorem lim_each {ts : List TypeId} {ds : List (DataW H)} (h : (DataW.weightsEach P ts ds).all (· ≤ reachBytes) = true) {j : Nat} {t : TypeId} {d : DataW H} (ht : ts[j]? = some t) (hd : ds[j]? = some d) : Lim P t d := fun n hn => by
  simpa using List.all_eq_true.1 h n (weightsEach_mem ht hd hn)
theorem lim_part {t : TypeId} {fs : Array Field} {parts : List (DataW H)} (hu : P.underlying t = some (.struct fs)) (h : Lim P t (.agg parts)) {j : Nat} {f : Field} {d : DataW H} (hf : fs.toList[j]? = some f) (hd : parts[j]? = some d) : Lim P f.type d := fun n hn => by
  refine h n ?_
  simp only [DataW.weights, hu]
  exact weightsEach_mem (j := j) (by rw [List.getElem?_map, hf]; rfl) hd hn
theorem lim_elem {t e : TypeId} {elems spare : List (DataW H)} (hu : P.underlying t = some (.slice e)) (h : Lim P t (.slice elems spare)) {d : DataW H} (hd : d ∈ elems) : Lim P e d := fun n hn => by
  refine h n ?_
  simp only [DataW.weights, hu, List.mem_cons, List.mem_append]
  exact .inr (.inl (weightsAll_mem hd hn))
theorem lim_len {t e : TypeId} {elems spare : List (DataW H)} (hu : P.underlying t = some (.slice e)) (h : Lim P t (.slice elems spare)) : (elems.length + spare.length) * P.bytesOf e ≤ 140737488351232 := by
  have := h ((elems.length + spare.length) * P.bytesOf e) (by simp only [DataW.weights, hu]; simp)
  exact this
theorem lim_str {t : TypeId} {s : ByteArray} (h : Lim (H := H) P t (.lit (.string s.data.toList))) : s.size ≤ 140737488355328 := by
  have := h s.data.toList.length (by simp [DataW.weights])
  have h2 : s.data.toList.length ≤ 140737488351232 := this
  have h3 : s.data.toList.length = s.size := rfl
  omega
end

section
variable {H : Type} {enc : TypeId × Value → H} {P : Program} {W : World} {sp : Nat → Bool} {held : Bool}
theorem cell_spot {w : World} {a : Addr} {v : Value} (h : w.cell? a = some v) : a.spot = none ∧ a.block < w.heap.size := by
  unfold World.cell? at h
  split at h
  · rename_i he
    refine ⟨?_, (Array.getElem?_eq_some_iff.1 he).1⟩
    cases hs : a.spot with
    | none => rfl
    | some n => rw [hs] at h; simp at h
  · cases h
theorem open_Sl {α : Type} {R : Rep α} {good : α → Prop} {base : Nat} {t e : TypeId} {fuel : Nat} {cs : List Value} {x : DataW H × List MemPlace} (ht : P.underlying t = some (.slice e)) (hC : P.cellsOf e = R.size) (hpos : 0 < R.size)
    (hel : ∀ n cs' x, cs'.length = R.size → DataW.trod enc P W base sp held n e cs' = some x → Lim P e x.1 → ∃ a, good a ∧ R.rep (fun k => k < W.heap.size) W a cs')
    (h : DataW.trod enc P W base sp held fuel t cs = some x) (hlim : Lim P t x.1) (hby : 1 ≤ P.bytesOf e) :
    ∃ (A : Option Addr) (n c : Nat) (l : List α), cs = [.slice A n c] ∧ n ≤ c ∧ c ≤ maxLen ∧ n ≤ 140737488355328 ∧ Sl R (fun k => k < W.heap.size) W A n l ∧ ∀ a ∈ l, good a := by
  rcases open_slice ht h with ⟨rfl, _⟩ | ⟨a, len, cap, m, n, D, Pl, rfl, hb, hl, hm, hmm, hx, hi⟩
  · exact ⟨none, 0, 0, [], rfl, Nat.le_refl _, Nat.zero_le _, Nat.zero_le _, Sl.nil_, by simp⟩
  · subst hx
    have hlm : len ≤ m := by rw [hmm]; split <;> omega
    have hlen : len ≤ 140737488355328 := by
      have h1 := lim_len ht hlim
      simp only [List.length_map, List.length_range] at h1
      have h2 := Nat.mul_le_mul_left (len + (m - len)) hby
      omega
    have hex : ∀ i : Fin len, ∃ y : α, good y ∧ ∃ xs, R.rep (fun k => k < W.heap.size) W y xs ∧ ∀ (j : Nat) (u : Value), xs[j]? = some u → W.cell? (a.add (i.1 * R.size + j)) = some u := fun i => by
      obtain ⟨cs', hc, ht'⟩ := hi i.1 (Nat.lt_of_lt_of_le i.2 hlm)
      rw [hC] at hc
      obtain ⟨_, hcl, hat⟩ := World.cells?_some hc
      obtain ⟨y, hg, hr⟩ := hel _ _ _ hcl ht' (lim_elem ht hlim (List.mem_map.2 ⟨i.1, List.mem_range.2 i.2, rfl⟩))
      refine ⟨y, hg, cs', hr, fun j u hu => ?_⟩
      have hj : j < R.size := by rw [← hcl]; exact (List.getElem?_eq_some_iff.1 hu).1
      rw [← Go.Deep.add_add, hat j hj, hu]
    refine ⟨some a, len, cap, List.ofFn fun i => (hex i).choose, rfl, hl, hm, hlen, ⟨by simp, fun hn => ?_⟩, fun y hy => ?_⟩
    · obtain ⟨_, xs, hr, hxs⟩ := (hex ⟨0, hn⟩).choose_spec
      have hlen := R.len hr
      have h0 := hxs 0 _ (List.getElem?_eq_getElem (by omega : 0 < xs.length))
      have ha0 : a.add (0 * R.size + 0) = a := by simp [Addr.add]
      rw [show (⟨0, hn⟩ : Fin len).1 = 0 from rfl, ha0] at h0
      obtain ⟨hs, hb'⟩ := cell_spot h0
      obtain ⟨b, o, s⟩ := a
      simp only at hs hb'
      subst hs
      refine ⟨b, o, rfl, hb', hb', fun k y hk => ?_⟩
      obtain ⟨hk1, hk2⟩ := List.getElem?_eq_some_iff.1 hk
      simp only [List.length_ofFn] at hk1
      obtain ⟨_, xs', hr', hx'⟩ := (hex ⟨k, hk1⟩).choose_spec
      simp only [List.getElem_ofFn] at hk2
      rw [hk2] at hr'
      refine ⟨xs', hr', fun j u hu => ?_⟩
      have := hx' j u hu
      rw [ad_add] at this
      rw [← Nat.add_assoc] at this
      exact this
    · obtain ⟨i, hi'⟩ := List.mem_ofFn.1 hy
      rw [← hi']
      exact (hex i).choose_spec.1
theorem open_strs {base : Nat} {t e : TypeId} {fuel : Nat} {cs : List Value} {x : DataW H × List MemPlace} (ht : P.underlying t = some (.slice e)) (he : P.underlying e = some .string) (hC : P.cellsOf e = 1) (hby : 1 ≤ P.bytesOf e)
    (h : DataW.trod enc P W base sp held fuel t cs = some x) (hlim : Lim P t x.1) :
    ∃ (A : Option Addr) (n c : Nat) (l : List ByteArray), cs = [.slice A n c] ∧ n ≤ c ∧ c ≤ maxLen ∧ n ≤ 140737488355328 ∧ Sl strR (fun k => k < W.heap.size) W A n l ∧ ∀ a ∈ l, a.size ≤ 140737488355328 :=
  open_Sl (R := strR) (good := fun s => s.size ≤ 140737488355328) ht hC (by decide) (fun _ _ _ _ h hl => by
    obtain ⟨s, rfl, hx, hs⟩ := DataW.trod_string he h
    rw [hx] at hl
    exact ⟨s, lim_str hl, rfl⟩) h hlim hby
end
end Go.Proofs.YtpkkkhgmkndpdaaGreatDoor
namespace Go.Proofs.YtpkkkhgmkndpdaaGreatDoor
open Go Go.RowKit Go.Proofs Go.Deep Go.ChangeShapes Go.WideShapes

/-- The plain wrap, with a condition on the world, and the world's shape kept. -/
theorem handed_and_shaped {H : Type} {enc : TypeId × Value → H} {a : Assume} {C : Checked} {os : Os} {f : FuncId} {fn : Func} {s : ChangeSpec} {conds : List PathCond} {apart fresh handsOn again : Bool} {X : World → Array Value → Prop}
    (hX : ∀ (w w' : World) (args : Array Value), w.heap = w'.heap → X w args → X w' args)
    (own : ownKnob C.prog.godebug = none) (started : os.Started) (noInit : C.prog.inits.idxOf? f = none) (hfn : C.prog.funcs[f]? = some fn)
    (witness : ∃ (w : World) (tape : Tape) (i : Input), w.os = os ∧ (w.forCall tape i).Shaped C.prog ∧ i.vars = [] ∧ Input.okWide C.prog (w.forCall tape i) .any w.heap.size f i ∧
      ((s.pre enc C.prog fn conds apart (w.forCall tape i).memory i.args ∧ X (w.forCall tape i).memory i.args) ∧ sizedMet enc C.prog fn (OpenSpec.ofChange s) apart (w.forCall tape i).memory i.args) ∧ a.holds C.prog (lone (Frame.enter C.prog f i.args .normal) [] (w.forCall tape i)))
    (contract : ∀ (W : World) (base : Nat) (args : Array Value) (ds gs : List (DataW H)) (before : List MemPlace),
      (∀ (j : Nat) t v, fn.params[j]? = some t → args[j]? = some v → Value.okWide C.prog W .any base t v) →
      DataW.Whole enc C.prog fn.params.toList s.vars apart W args.toList ds gs before →
      (DataW.weightsEach C.prog (fn.params.toList ++ s.plain.varTypes C.prog) (ds ++ gs)).all (· ≤ reachBytes) = true → X W args → W.ShapedOpen C.prog →
      Calls C.prog f args W fun e W' => ∃ v, e = .returned v ∧ s.post enc C.prog fn apart fresh handsOn again W args v W') :
    ReturnsInHanded a C os f .any (fun w args => (s.pre enc C.prog fn conds apart w args ∧ X w args) ∧ sizedMet enc C.prog fn (OpenSpec.ofChange s) apart w args) (s.post enc C.prog fn apart fresh handsOn again) := by
  refine returnsInHanded_of_calls own started noInit witness ?_
  intro w tape i _ hsh _ hok hpre _
  obtain ⟨_, _, _, fn', hfn', _, _, _, _, hval⟩ := hok
  obtain rfl : fn' = fn := Option.some.inj (hfn'.symm.trans hfn)
  obtain ⟨⟨⟨ds, gs, before, hw, _⟩, hx⟩, hz⟩ := hpre
  refine (contract (w.forCall tape i) w.heap.size i.args ds gs before hval (DataW.Whole.of_heap (by rfl) hw) (hz.weights hw) (hX _ _ _ (by rfl) hx) hsh).mono fun e W' ⟨v, he, hp⟩ => ?_
  subst he
  exact ChangeSpec.post_blind hp

theorem mx_of_shaped {W : World} (h : W.ShapedOpen Tryz.prog) : Mx W :=
  Go.Proofs.cell_of_shapedOpen_int (zero := #[.int .i64 0]) (t := 3) h (of_decide_eq_true (by kernel_rfl)) (by kernel_rfl) rfl (by kernel_rfl) (by kernel_rfl) Tryz.underlying3

section
variable {H : Type} {enc : TypeId × Value → H} {W : World} {sp : Nat → Bool} {held : Bool}
theorem cells_evs : Tryz.prog.cellsOf 30 = 8 := by kernel_rfl
theorem cells_strv : Tryz.prog.cellsOf 9 = 1 := by kernel_rfl
theorem cells_intv : Tryz.prog.cellsOf 3 = 1 := by kernel_rfl
theorem cells_kind : Tryz.prog.cellsOf 28 = 1 := by kernel_rfl
theorem bytes_ev : 1 ≤ Tryz.prog.bytesOf 30 := by rw [show Tryz.prog.bytesOf 30 = 96 by kernel_rfl]; decide
structure EvIn (e : Ev) : Prop where
  wf : EvWf e
  num : (Lit.int .i64 e.num).wf = true
  tick : (Lit.int .i64 e.tick).wf = true
  kind : (Lit.int .i64 e.kind).wf = true
  value : (Lit.int .i64 e.value).wf = true
set_option maxRecDepth 100000 in
theorem open_ev {base : Nat} {fuel : Nat} {cs : List Value} {x : DataW H × List MemPlace} (hl : cs.length = 8) (hx : DataW.trod enc Tryz.prog W base sp held fuel 30 cs = some x) (hlim : Lim Tryz.prog 30 x.1) :
    ∃ e, EvIn e ∧ evR.rep (fun k => k < W.heap.size) W e cs := by
  obtain ⟨xs, n', _, hxx, _, _, hf⟩ := DataW.trod_struct Tryz.underlying30 hx
  rw [hxx] at hlim
  match cs, hl with
  | [c0, c1, c2, c3, c4, c5, c6, c7], _ =>
    have l : xs.length = 8 := by assumption
    match xs, l with
    | [y0, y1, y2, y3, y4, y5, y6, y7], _ =>
      have g0 : DataW.trod enc Tryz.prog W base sp held n' 9 (([c0, c1, c2, c3, c4, c5, c6, c7].drop 0).take (Tryz.prog.cellsOf 9)) = some y0 := hf 0 _ rfl
      rw [cells_strv] at g0
      replace g0 : DataW.trod enc Tryz.prog W base sp held n' 9 [c0] = some y0 := g0
      have g1 : DataW.trod enc Tryz.prog W base sp held n' 3 (([c0, c1, c2, c3, c4, c5, c6, c7].drop 1).take (Tryz.prog.cellsOf 3)) = some y1 := hf 1 _ rfl
      rw [cells_intv] at g1
      replace g1 : DataW.trod enc Tryz.prog W base sp held n' 3 [c1] = some y1 := g1
      have g2 : DataW.trod enc Tryz.prog W base sp held n' 3 (([c0, c1, c2, c3, c4, c5, c6, c7].drop 2).take (Tryz.prog.cellsOf 3)) = some y2 := hf 2 _ rfl
      rw [cells_intv] at g2
      replace g2 : DataW.trod enc Tryz.prog W base sp held n' 3 [c2] = some y2 := g2
      have g3 : DataW.trod enc Tryz.prog W base sp held n' 28 (([c0, c1, c2, c3, c4, c5, c6, c7].drop 3).take (Tryz.prog.cellsOf 28)) = some y3 := hf 3 _ rfl
      rw [cells_kind] at g3
      replace g3 : DataW.trod enc Tryz.prog W base sp held n' 28 [c3] = some y3 := g3
      have g4 : DataW.trod enc Tryz.prog W base sp held n' 9 (([c0, c1, c2, c3, c4, c5, c6, c7].drop 4).take (Tryz.prog.cellsOf 9)) = some y4 := hf 4 _ rfl
      rw [cells_strv] at g4
      replace g4 : DataW.trod enc Tryz.prog W base sp held n' 9 [c4] = some y4 := g4
      have g5 : DataW.trod enc Tryz.prog W base sp held n' 9 (([c0, c1, c2, c3, c4, c5, c6, c7].drop 5).take (Tryz.prog.cellsOf 9)) = some y5 := hf 5 _ rfl
      rw [cells_strv] at g5
      replace g5 : DataW.trod enc Tryz.prog W base sp held n' 9 [c5] = some y5 := g5
      have g6 : DataW.trod enc Tryz.prog W base sp held n' 3 (([c0, c1, c2, c3, c4, c5, c6, c7].drop 6).take (Tryz.prog.cellsOf 3)) = some y6 := hf 6 _ rfl
      rw [cells_intv] at g6
      replace g6 : DataW.trod enc Tryz.prog W base sp held n' 3 [c6] = some y6 := g6
      have g7 : DataW.trod enc Tryz.prog W base sp held n' 9 (([c0, c1, c2, c3, c4, c5, c6, c7].drop 7).take (Tryz.prog.cellsOf 9)) = some y7 := hf 7 _ rfl
      rw [cells_strv] at g7
      replace g7 : DataW.trod enc Tryz.prog W base sp held n' 9 [c7] = some y7 := g7
      have m0 : Lim Tryz.prog 9 y0.1 := lim_part Tryz.underlying30 hlim (j := 0) rfl rfl
      obtain ⟨s0, e0, v0, _⟩ := DataW.trod_string Tryz.underlying9 g0
      rw [v0] at m0
      obtain ⟨z1, e1, _, w1⟩ := DataW.trod_int Tryz.underlying3 g1
      obtain ⟨z2, e2, _, w2⟩ := DataW.trod_int Tryz.underlying3 g2
      obtain ⟨z3, e3, _, w3⟩ := DataW.trod_int Tryz.underlying28 g3
      have m4 : Lim Tryz.prog 9 y4.1 := lim_part Tryz.underlying30 hlim (j := 4) rfl rfl
      obtain ⟨s4, e4, v4, _⟩ := DataW.trod_string Tryz.underlying9 g4
      rw [v4] at m4
      have m5 : Lim Tryz.prog 9 y5.1 := lim_part Tryz.underlying30 hlim (j := 5) rfl rfl
      obtain ⟨s5, e5, v5, _⟩ := DataW.trod_string Tryz.underlying9 g5
      rw [v5] at m5
      obtain ⟨z6, e6, _, w6⟩ := DataW.trod_int Tryz.underlying3 g6
      have m7 : Lim Tryz.prog 9 y7.1 := lim_part Tryz.underlying30 hlim (j := 7) rfl rfl
      obtain ⟨s7, e7, v7, _⟩ := DataW.trod_string Tryz.underlying9 g7
      rw [v7] at m7
      simp only [List.cons.injEq, and_true] at e0 e1 e2 e3 e4 e5 e6 e7
      subst e0 e1 e2 e3 e4 e5 e6 e7
      exact ⟨⟨s0, z1, z2, z3, s4, s5, z6, s7⟩, ⟨⟨lim_str m0, lim_str m4, lim_str m5, lim_str m7⟩, w1, w2, w3, w6⟩, rfl⟩
theorem open_evs {base : Nat} {fuel : Nat} {cs : List Value} {x : DataW H × List MemPlace} (h : DataW.trod enc Tryz.prog W base sp held fuel 22 cs = some x) (hlim : Lim Tryz.prog 22 x.1) :
    ∃ (A : Option Addr) (n c : Nat) (l : List Ev), cs = [.slice A n c] ∧ n ≤ c ∧ c ≤ maxLen ∧ n ≤ 140737488355328 ∧ Sl evR (fun k => k < W.heap.size) W A n l ∧ ∀ a ∈ l, EvIn a :=
  open_Sl (R := evR) (good := EvIn) Tryz.underlying22 cells_evs (by decide) (fun _ _ _ hl hx hm => open_ev hl hx hm) h hlim bytes_ev
end
end Go.Proofs.YtpkkkhgmkndpdaaGreatDoor
namespace Go.Proofs.YtpkkkhgmkndpdaaGreatDoor
open Go Go.RowKit Go.Proofs Go.ChangeShapes Go.WideShapes

theorem cells_u64v : Tryz.prog.cellsOf 186 = 1 := by kernel_rfl
theorem strs_of_arr {H : Type} {enc : TypeId × Value → H} {w : World} {base : Nat} {sp : Nat → Bool} {held : Bool} {fuel : Nat} {cs : List Value} {l : List (List UInt8)} {p : List MemPlace} {t : TypeId} {n : Nat} (ht : Tryz.prog.underlying t = some (.array n 9))
    (h : DataW.trod enc Tryz.prog w base sp held fuel t cs = some (.agg (l.map fun x => .lit (.string x)), p)) : ∀ (i : Nat) (x : List UInt8), l[i]? = some x → cs[i]? = some (.string (bts x)) := by
  obtain ⟨xs, m, _, hx, _, hlen, hel⟩ := DataW.trod_array ht h
  intro i x hi
  have hxs : xs.map (·.1) = l.map fun x => (DataW.lit (.string x) : DataW H) := by
    have := congrArg Prod.fst hx
    simpa using this.symm
  have hil : i < n := by
    have h1 := congrArg List.length hxs
    simp only [List.length_map] at h1
    have := (List.getElem?_eq_some_iff.1 hi).1
    omega
  have h2 := hel i hil
  rw [cells_strv, Nat.mul_one] at h2
  have h3 := congrArg (·[i]?) hxs
  simp only [List.getElem?_map, hi, Option.map_some] at h3
  obtain ⟨y, hy, hy1⟩ := Option.map_eq_some_iff.1 h3
  rw [hy] at h2
  obtain ⟨s, e, v, _⟩ := DataW.trod_string Tryz.underlying9 h2
  have h4 : cs[i]? = some (.string s) := by
    have := congrArg (·[0]?) e
    simpa [List.getElem?_take, List.getElem?_drop] using this
  rw [v] at hy1
  simp only [DataW.lit.injEq, Lit.string.injEq] at hy1
  rw [h4, ← hy1, bts_of]

theorem vars_of_laid {W : World} (h : laidMetH Tryz.prog Rows.judgeCasesRow.laid W) (hsh : W.ShapedOpen Tryz.prog) : Vars W := by
  rw [MakeChecks.laidMetH_plain _ _ _ (by kernel_rfl)] at h
  obtain ⟨ps, ⟨g0, t0, cs0, f0, p0, q0, hg0, ht0, hv0, hd0, ⟨g1, t1, cs1, f1, p1, q1, hg1, ht1, hv1, hd1, ⟨g, t, cs, f, p, q, hg, ht, hv, hd, ⟨g3, t3, cs3, f3, p3, q3, hg3, ht3, hv3, hd3, ⟨g4, t4, cs4, f4, p4, q4, hg4, ht4, hv4, hd4, _, _⟩, _⟩, _⟩, _⟩, _⟩, _, _⟩ := h
  refine ⟨mx_of_shaped hsh, ?_, ?_⟩
  · have hty : t = 229 := by
      have e : (Tryz.prog.globalNamed "internal/strconv.uint64pow10").bind (fun g => (Tryz.prog.globals[g]?).map (·.type)) = some 229 := by kernel_rfl
      rw [hg] at e
      exact Option.some.inj (ht.symm.trans e)
    subst hty
    show Lib.TabIs _ _ _ _ _
    unfold Lib.TabIs
    rw [hv, ← Lib.cells_of_tab (zs := Lib.pow10Tab) (k := .u64) (n := 20) Tryz.underlying229 Tryz.underlying186 cells_u64v (by kernel_rfl) hd]
  · have hty : t4 = 113 := by
      have e : (Tryz.prog.globalNamed "cicerone/event.kindNames").bind (fun g => (Tryz.prog.globals[g]?).map (·.type)) = some 113 := by kernel_rfl
      rw [hg4] at e
      exact Option.some.inj (ht4.symm.trans e)
    subst hty
    have hgn : Tryz.prog.globalNamed "cicerone/event.kindNames" = some 0 := by kernel_rfl
    intro k s hs
    have h5 := strs_of_arr (l := kindsB.map (·.data.toList)) Tryz.underlying113 hd4 k s.data.toList (by rw [List.getElem?_map, hs]; rfl)
    rw [World.var?_cell hgn hv4 k]
    rw [bts_of] at h5
    simpa using h5
end Go.Proofs.YtpkkkhgmkndpdaaGreatDoor
