/-
  What is proved here: what the listed variables hold, of the law's condition. No condition.
-/
import Derived.Test.YtmhkgfoimkonoaaDoorEvOpen
import Derived.Test.YtmhkgfoimkonoaaDoorRows
import Derived.MakeChecks
import Derived.Lib.LaidTab
namespace Go.Proofs.YtmhkgfoimkonoaaDoor
open Go Go.RowKit Go.Proofs Go.ChangeShapes Go.WideShapes

theorem cells_u64v : Tryd.prog.cellsOf 117 = 1 := by kernel_rfl
theorem strs_of_arr {H : Type} {enc : TypeId × Value → H} {w : World} {base : Nat} {sp : Nat → Bool} {held : Bool} {fuel : Nat} {cs : List Value} {l : List (List UInt8)} {p : List MemPlace} {t : TypeId} {n : Nat} (ht : Tryd.prog.underlying t = some (.array n 9))
    (h : DataW.trod enc Tryd.prog w base sp held fuel t cs = some (.agg (l.map fun x => .lit (.string x)), p)) : ∀ (i : Nat) (x : List UInt8), l[i]? = some x → cs[i]? = some (.string (bts x)) := by
  obtain ⟨xs, m, _, hx, _, hlen, hel⟩ := DataW.trod_array ht h
  intro i x hi
  have hxs : xs.map (·.1) = l.map fun x => (DataW.lit (.string x) : DataW H) := by
    have := congrArg Prod.fst hx
    simpa using this.symm
  have hil : i < n := by
    have h1 := congrArg List.length hxs
    simp only [List.length_map] at h1
    have := (List.getElem?_eq_some_iff.1 hi).1
    omega
  have h2 := hel i hil
  rw [cells_strv, Nat.mul_one] at h2
  have h3 := congrArg (·[i]?) hxs
  simp only [List.getElem?_map, hi, Option.map_some] at h3
  obtain ⟨y, hy, hy1⟩ := Option.map_eq_some_iff.1 h3
  rw [hy] at h2
  obtain ⟨s, e, v, _⟩ := DataW.trod_string Tryd.underlying9 h2
  have h4 : cs[i]? = some (.string s) := by
    have := congrArg (·[0]?) e
    simpa [List.getElem?_take, List.getElem?_drop] using this
  rw [v] at hy1
  simp only [DataW.lit.injEq, Lit.string.injEq] at hy1
  rw [h4, ← hy1, bts_of]

theorem vars_of_laid {W : World} (h : laidMetH Tryd.prog Rows.eventSortsRow.laid W) (hsh : W.ShapedOpen Tryd.prog) : Vars W := by
  rw [MakeChecks.laidMetH_plain _ _ _ (by kernel_rfl)] at h
  obtain ⟨ps, ⟨g0, t0, cs0, f0, p0, q0, hg0, ht0, hv0, hd0, ⟨g1, t1, cs1, f1, p1, q1, hg1, ht1, hv1, hd1, ⟨g, t, cs, f, p, q, hg, ht, hv, hd, ⟨g3, t3, cs3, f3, p3, q3, hg3, ht3, hv3, hd3, ⟨g4, t4, cs4, f4, p4, q4, hg4, ht4, hv4, hd4, _, _⟩, _⟩, _⟩, _⟩, _⟩, _, _⟩ := h
  refine ⟨mx_of_shaped hsh, ?_, ?_⟩
  · have hty : t = 129 := by
      have e : (Tryd.prog.globalNamed "internal/strconv.uint64pow10").bind (fun g => (Tryd.prog.globals[g]?).map (·.type)) = some 129 := by kernel_rfl
      rw [hg] at e
      exact Option.some.inj (ht.symm.trans e)
    subst hty
    show Lib.TabIs _ _ _ _ _
    unfold Lib.TabIs
    rw [hv, ← Lib.cells_of_tab (zs := Lib.pow10Tab) (k := .u64) (n := 20) Tryd.underlying129 Tryd.underlying117 cells_u64v (by kernel_rfl) hd]
  · have hty : t4 = 82 := by
      have e : (Tryd.prog.globalNamed "cicerone/event.kindNames").bind (fun g => (Tryd.prog.globals[g]?).map (·.type)) = some 82 := by kernel_rfl
      rw [hg4] at e
      exact Option.some.inj (ht4.symm.trans e)
    subst hty
    have hgn : Tryd.prog.globalNamed "cicerone/event.kindNames" = some 0 := by kernel_rfl
    intro k s hs
    have h5 := strs_of_arr (l := kindsB.map (·.data.toList)) Tryd.underlying82 hd4 k s.data.toList (by rw [List.getElem?_map, hs]; rfl)
    rw [World.var?_cell hgn hv4 k]
    rw [bts_of] at h5
    simpa using h5
end Go.Proofs.YtmhkgfoimkonoaaDoor
