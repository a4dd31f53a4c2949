/-
  What is proved here: an event's text is parsed to it; the program's Parse and the document's come to the same. No program is in sight. No condition but those told.
-/
import Derived.Test.YtihdeidaekheoaaDoorEvPar
import Derived.Test.YtihdeidaekheoaaDoorEvDigP
namespace Go.Proofs.YtihdeidaekheoaaDoor
open Go Go.RowKit
theorem kindTo_at : ∀ i : Fin 15, kindTo (kindsB.getD i ⟨#[]⟩) 15 = (i.val : Int) := by decide +kernel
/-- The words of an event's text. -/
theorem fmt_parts {e : Ev} (h : mayE e = true) : (partsL 32 (fmtE e).data.toList).map bts = (wordsE e).map dotB := by
  have h1 : (fmtE e).data.toList = Lib.join (((wordsE e).map dotB).map (·.data.toList)) [32] := by simp [fmtE]
  rw [h1, parts_join 32 _ (by simp [wordsE]) (words_free h), List.map_map]
  conv => rhs; rw [← List.map_id ((wordsE e).map dotB)]
  apply List.map_congr_left
  intro x _
  exact bts_of x
/-- An event's text is parsed to it. -/
theorem evP_fmt {e : Ev} (h : mayE e = true) : evP (dotB e.src) (dotB (itoaB e.num)) (dotB (itoaB e.tick)) (dotB (kindsB.getD e.kind.toNat ⟨#[]⟩)) (dotB e.person) (dotB e.item) (dotB (itoaB e.value)) (dotB e.text) = e := by
  have hF := mayF h
  have hk : e.kind.toNat < 15 := by have := hF.kind0; have := hF.kind1; omega
  have dp : ∀ {s : ByteArray}, nameB s = true ∨ noneB s = true → s ≠ ⟨#[46]⟩ := fun h => h.elim nameB_dot noneB_dot
  have dt : ∀ {s : ByteArray}, nameB s = true ∨ noneB s = true ∨ labelB s = true → s ≠ ⟨#[46]⟩ := fun h => h.elim nameB_dot (fun h => h.elim noneB_dot labelB_dot)
  unfold evP
  rw [undot_dot (nameB_dot hF.src), dot_itoa hF.num00, dot_itoa hF.tick0, dot_itoa hF.value0, dot_kind hk, undot_dot (dp hF.person), undot_dot (dp hF.item), undot_dot (dt hF.text),
    (digOk_itoa hF.num00 hF.num1).2.1, (digOk_itoa hF.tick0 hF.tick1).2.1, (digOk_itoa hF.value0 hF.value11).2.1]
  have hk2 := kindTo_at ⟨_, hk⟩
  rw [show kindTo (kindsB.getD e.kind.toNat ⟨#[]⟩) 15 = e.kind from hk2.trans (by have := hF.kind0; show (e.kind.toNat : Int) = _; omega)]
end Go.Proofs.YtihdeidaekheoaaDoor
