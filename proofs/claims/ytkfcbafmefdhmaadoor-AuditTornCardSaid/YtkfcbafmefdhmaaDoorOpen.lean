/-
  What is proved here: an argument that is a slice, of strings or of the document's entries, is opened: what it holds as a plain list. And the table of powers is read off the row's condition. No condition.
-/
import Derived.Test.YtkfcbafmefdhmaaDoorEnt6
import Derived.Test.YtkfcbafmefdhmaaDoorRows
import Derived.Lib.LaidTab
import Derived.Deep.Slices
import Derived.Deep.Fields
import Derived.ChangeArms
import Derived.ProofKit
import Derived.MakeChecks
namespace Go.Proofs.YtkfcbafmefdhmaaDoor
open Go Go.RowKit Go.Proofs Go.Deep Go.ChangeShapes Go.WideShapes

section
variable {H : Type} {enc : TypeId × Value → H} {P : Program} {W : World} {sp : Nat → Bool} {held : Bool}
theorem cell_spot {w : World} {a : Addr} {v : Value} (h : w.cell? a = some v) : a.spot = none ∧ a.block < w.heap.size := by
  unfold World.cell? at h
  split at h
  · rename_i he
    refine ⟨?_, (Array.getElem?_eq_some_iff.1 he).1⟩
    cases hs : a.spot with
    | none => rfl
    | some n => rw [hs] at h; simp at h
  · cases h
theorem open_Sl {α : Type} {R : Rep α} {good : α → Prop} {base : Nat} {t e : TypeId} {fuel : Nat} {cs : List Value} {x : DataW H × List MemPlace} (ht : P.underlying t = some (.slice e)) (hC : P.cellsOf e = R.size) (hpos : 0 < R.size)
    (hel : ∀ n cs' x, cs'.length = R.size → DataW.trod enc P W base sp held n e cs' = some x → ∃ a, good a ∧ R.rep (fun k => k < W.heap.size) W a cs')
    (h : DataW.trod enc P W base sp held fuel t cs = some x) :
    ∃ (A : Option Addr) (n c : Nat) (l : List α), cs = [.slice A n c] ∧ n ≤ c ∧ c ≤ maxLen ∧ Sl R (fun k => k < W.heap.size) W A n l ∧ ∀ a ∈ l, good a := by
  rcases open_slice ht h with ⟨rfl, _⟩ | ⟨a, len, cap, m, n, D, Pl, rfl, hb, hl, hm, hmm, hx, hi⟩
  · exact ⟨none, 0, 0, [], rfl, Nat.le_refl _, Nat.zero_le _, Sl.nil_, by simp⟩
  · have hlm : len ≤ m := by rw [hmm]; split <;> omega
    have hex : ∀ i : Fin len, ∃ y : α, good y ∧ ∃ xs, R.rep (fun k => k < W.heap.size) W y xs ∧ ∀ (j : Nat) (u : Value), xs[j]? = some u → W.cell? (a.add (i.1 * R.size + j)) = some u := fun i => by
      obtain ⟨cs', hc, ht'⟩ := hi i.1 (Nat.lt_of_lt_of_le i.2 hlm)
      rw [hC] at hc
      obtain ⟨_, hcl, hat⟩ := World.cells?_some hc
      obtain ⟨y, hg, hr⟩ := hel _ _ _ hcl ht'
      refine ⟨y, hg, cs', hr, fun j u hu => ?_⟩
      have hj : j < R.size := by rw [← hcl]; exact (List.getElem?_eq_some_iff.1 hu).1
      rw [← Go.Deep.add_add, hat j hj, hu]
    refine ⟨some a, len, cap, List.ofFn fun i => (hex i).choose, rfl, hl, hm, ⟨by simp, fun hn => ?_⟩, fun y hy => ?_⟩
    · obtain ⟨_, xs, hr, hxs⟩ := (hex ⟨0, hn⟩).choose_spec
      have hlen := R.len hr
      have h0 := hxs 0 _ (List.getElem?_eq_getElem (by omega : 0 < xs.length))
      have ha0 : a.add (0 * R.size + 0) = a := by simp [Addr.add]
      rw [show (⟨0, hn⟩ : Fin len).1 = 0 from rfl, ha0] at h0
      obtain ⟨hs, hb'⟩ := cell_spot h0
      obtain ⟨b, o, s⟩ := a
      simp only at hs hb'
      subst hs
      refine ⟨b, o, rfl, hb', hb', fun k y hk => ?_⟩
      obtain ⟨hk1, hk2⟩ := List.getElem?_eq_some_iff.1 hk
      simp only [List.length_ofFn] at hk1
      obtain ⟨_, xs', hr', hx'⟩ := (hex ⟨k, hk1⟩).choose_spec
      simp only [List.getElem_ofFn] at hk2
      rw [hk2] at hr'
      refine ⟨xs', hr', fun j u hu => ?_⟩
      have := hx' j u hu
      rw [ad_add] at this
      rw [← Nat.add_assoc] at this
      exact this
    · obtain ⟨i, hi'⟩ := List.mem_ofFn.1 hy
      rw [← hi']
      exact (hex i).choose_spec.1
theorem open_strs {base : Nat} {t e : TypeId} {fuel : Nat} {cs : List Value} {x : DataW H × List MemPlace} (ht : P.underlying t = some (.slice e)) (he : P.underlying e = some .string) (hC : P.cellsOf e = 1)
    (h : DataW.trod enc P W base sp held fuel t cs = some x) :
    ∃ (A : Option Addr) (n c : Nat) (l : List ByteArray), cs = [.slice A n c] ∧ n ≤ c ∧ c ≤ maxLen ∧ Sl strR (fun k => k < W.heap.size) W A n l ∧ ∀ a ∈ l, a.size ≤ maxLen :=
  open_Sl (R := strR) (good := fun s => s.size ≤ maxLen) ht hC (by decide) (fun _ _ _ _ h => by
    obtain ⟨s, rfl, _, hs⟩ := DataW.trod_string he h
    exact ⟨s, hs, rfl⟩) h
end

/-- What any entry that comes in is. -/
structure EntWf (e : Ent) : Prop where
  off : (Lit.int .i64 e.off).wf = true
  now : (Lit.int .i64 e.now).wf = true
  person : e.person.size ≤ maxLen
  n : e.items.length ≤ maxLen
  i : ∀ s ∈ e.items, s.size ≤ maxLen
  sum : (Lit.int .u64 e.sum).wf = true

section
variable {H : Type} {enc : TypeId × Value → H} {W : World} {sp : Nat → Bool} {held : Bool}
theorem cells_ent : Tryd.prog.cellsOf 30 = 5 := by kernel_rfl
theorem cells_str : Tryd.prog.cellsOf 9 = 1 := by kernel_rfl
theorem cells_strs : Tryd.prog.cellsOf 28 = 1 := by kernel_rfl
theorem cells_int : Tryd.prog.cellsOf 3 = 1 := by kernel_rfl
theorem cells_u64 : Tryd.prog.cellsOf 22 = 1 := by kernel_rfl
set_option maxRecDepth 100000 in
theorem open_ents {base : Nat} {fuel : Nat} {cs : List Value} {x : DataW H × List MemPlace} (h : DataW.trod enc Tryd.prog W base sp held fuel 23 cs = some x) :
    ∃ (A : Option Addr) (n c : Nat) (l : List Ent), cs = [.slice A n c] ∧ n ≤ c ∧ c ≤ maxLen ∧ Sl entR (fun k => k < W.heap.size) W A n l ∧ ∀ a ∈ l, EntWf a := by
  refine open_Sl (R := entR) (good := EntWf) Tryd.underlying23 cells_ent (by decide) (fun n cs' x hl hx => ?_) h
  obtain ⟨xs, n', _, _, _, _, hf⟩ := DataW.trod_struct Tryd.underlying30 hx
  replace hl : cs'.length = 5 := hl
  match cs', hl with
  | [c0, c1, c2, c3, c4], _ =>
    have l : xs.length = 5 := by assumption
    match xs, l with
    | [y0, y1, y2, y3, y4], _ =>
      have g0 : DataW.trod enc Tryd.prog W base sp held n' 3 (([c0, c1, c2, c3, c4].drop 0).take (Tryd.prog.cellsOf 3)) = some y0 := hf 0 _ rfl
      rw [cells_int] at g0
      replace g0 : DataW.trod enc Tryd.prog W base sp held n' 3 [c0] = some y0 := g0
      have g1 : DataW.trod enc Tryd.prog W base sp held n' 3 (([c0, c1, c2, c3, c4].drop 1).take (Tryd.prog.cellsOf 3)) = some y1 := hf 1 _ rfl
      rw [cells_int] at g1
      replace g1 : DataW.trod enc Tryd.prog W base sp held n' 3 [c1] = some y1 := g1
      have g2 : DataW.trod enc Tryd.prog W base sp held n' 9 (([c0, c1, c2, c3, c4].drop 2).take (Tryd.prog.cellsOf 9)) = some y2 := hf 2 _ rfl
      rw [cells_str] at g2
      replace g2 : DataW.trod enc Tryd.prog W base sp held n' 9 [c2] = some y2 := g2
      have g3 : DataW.trod enc Tryd.prog W base sp held n' 28 (([c0, c1, c2, c3, c4].drop 3).take (Tryd.prog.cellsOf 28)) = some y3 := hf 3 _ rfl
      rw [cells_strs] at g3
      replace g3 : DataW.trod enc Tryd.prog W base sp held n' 28 [c3] = some y3 := g3
      have g4 : DataW.trod enc Tryd.prog W base sp held n' 22 (([c0, c1, c2, c3, c4].drop 4).take (Tryd.prog.cellsOf 22)) = some y4 := hf 4 _ rfl
      rw [cells_u64] at g4
      replace g4 : DataW.trod enc Tryd.prog W base sp held n' 22 [c4] = some y4 := g4
      obtain ⟨z0, e0, _, w0⟩ := DataW.trod_int Tryd.underlying3 g0
      obtain ⟨z1, e1, _, w1⟩ := DataW.trod_int Tryd.underlying3 g1
      obtain ⟨s2, e2, _, w2⟩ := DataW.trod_string Tryd.underlying9 g2
      obtain ⟨A, m, c, l, e3, hmc, hcm, hs, hss⟩ := open_strs Tryd.underlying28 Tryd.underlying9 cells_str g3
      obtain ⟨z4, e4, _, w4⟩ := DataW.trod_int Tryd.underlying22 g4
      simp only [List.cons.injEq, and_true] at e0 e1 e2 e3 e4
      subst e0 e1 e2 e3 e4
      have hlm : l.length = m := hs.1
      refine ⟨⟨z0, z1, s2, l, z4⟩, ⟨w0, w1, w2, by show l.length ≤ _; omega, hss, w4⟩, A, c, ?_, by show l.length ≤ _; omega, by show Sl strR _ W A l.length l; rw [hlm]; exact hs⟩
      show [_, _, _, Value.slice A m c, _] = [_, _, _, Value.slice A l.length c, _]
      rw [hlm]
end

theorem g_pow : (Tryd.prog.globalNamed "internal/strconv.uint64pow10").isSome = true := by kernel_rfl
end Go.Proofs.YtkfcbafmefdhmaaDoor
