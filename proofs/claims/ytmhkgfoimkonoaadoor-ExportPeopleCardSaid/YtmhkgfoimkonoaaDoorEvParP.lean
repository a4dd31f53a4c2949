/-
  What is proved here: an event's text is parsed to it; the program's Parse and the document's come to the same. No program is in sight. No condition but those told.
  how long an event's text is at most. No program is in sight. No condition.
-/
import Derived.Test.YtmhkgfoimkonoaaDoorEvPar
import Derived.Test.YtmhkgfoimkonoaaDoorEvKin
namespace Go.Proofs.YtmhkgfoimkonoaaDoor
open Go Go.RowKit
theorem kindTo_at : ∀ i : Fin 15, kindTo (kindsB.getD i ⟨#[]⟩) 15 = (i.val : Int) := by decide +kernel
/-- The words of an event's text. -/
theorem fmt_parts {e : Ev} (h : mayE e = true) : (partsL 32 (fmtE e).data.toList).map bts = (wordsE e).map dotB := by
  have h1 : (fmtE e).data.toList = Lib.join (((wordsE e).map dotB).map (·.data.toList)) [32] := by simp [fmtE]
  rw [h1, parts_join 32 _ (by simp [wordsE]) (words_free h), List.map_map]
  conv => rhs; rw [← List.map_id ((wordsE e).map dotB)]
  apply List.map_congr_left
  intro x _
  exact bts_of x
/-- An event's text is parsed to it. -/
theorem evP_fmt {e : Ev} (h : mayE e = true) : evP (dotB e.src) (dotB (itoaB e.num)) (dotB (itoaB e.tick)) (dotB (kindsB.getD e.kind.toNat ⟨#[]⟩)) (dotB e.person) (dotB e.item) (dotB (itoaB e.value)) (dotB e.text) = e := by
  have hF := mayF h
  have hk : e.kind.toNat < 15 := by have := hF.kind0; have := hF.kind1; omega
  have dp : ∀ {s : ByteArray}, nameB s = true ∨ noneB s = true → s ≠ ⟨#[46]⟩ := fun h => h.elim nameB_dot noneB_dot
  have dt : ∀ {s : ByteArray}, nameB s = true ∨ noneB s = true ∨ labelB s = true → s ≠ ⟨#[46]⟩ := fun h => h.elim nameB_dot (fun h => h.elim noneB_dot labelB_dot)
  unfold evP
  rw [undot_dot (nameB_dot hF.src), dot_itoa hF.num00, dot_itoa hF.tick0, dot_itoa hF.value0, dot_kind hk, undot_dot (dp hF.person), undot_dot (dp hF.item), undot_dot (dt hF.text),
    (digOk_itoa hF.num00 hF.num1).2.1, (digOk_itoa hF.tick0 hF.tick1).2.1, (digOk_itoa hF.value0 hF.value11).2.1]
  have hk2 := kindTo_at ⟨_, hk⟩
  rw [show kindTo (kindsB.getD e.kind.toNat ⟨#[]⟩) 15 = e.kind from hk2.trans (by have := hF.kind0; show (e.kind.toNat : Int) = _; omega)]
end Go.Proofs.YtmhkgfoimkonoaaDoor
namespace Go.Proofs.YtmhkgfoimkonoaaDoor
open Go Go.RowKit
theorem words_size {e : Ev} (h : mayE e = true) : ∀ x ∈ (wordsE e).map dotB, x.size ≤ 999999 := by
  have hF := mayF h
  intro x hx
  obtain ⟨z, hz, rfl⟩ := List.mem_map.1 hx
  have hd := dotB_size z
  have hi : ∀ n : Int, (itoaB n).size = (Lib.itoa n).length := fun n => by show (Lib.itoa n).toArray.size = _; simp
  have a1 := itoa_len e.num hF.num00 hF.num1
  have a2 := itoa_len e.tick hF.tick0 hF.tick1
  have a3 := itoa_len e.value hF.value0 hF.value11
  have a4 : (kindsB.getD e.kind.toNat ⟨#[]⟩).size ≤ 10 := kindsB_size _ (List.mem_of_getElem? (kinds_at (by have := hF.kind0; have := hF.kind1; omega)))
  have a5 : e.src.size ≤ 24 := (nameB_size hF.src).2
  have a6 : e.person.size ≤ 24 := hF.psize
  have a7 : e.item.size ≤ 24 := hF.isize
  have a8 : e.text.size ≤ 224 := hF.tsize
  simp only [wordsE, List.mem_cons, List.not_mem_nil, or_false] at hz
  rcases hz with rfl | rfl | rfl | rfl | rfl | rfl | rfl | rfl <;> (try rw [hi] at hd) <;> omega
theorem fmtE_small {e : Ev} (h : mayE e = true) : (fmtE e).size ≤ 16008 := by
  have hF := mayF h
  have hi : ∀ n : Int, (itoaB n).size = (Lib.itoa n).length := fun n => by show (Lib.itoa n).toArray.size = _; simp
  have a1 := itoa_len e.num hF.num00 hF.num1
  have a2 := itoa_len e.tick hF.tick0 hF.tick1
  have a3 := itoa_len e.value hF.value0 hF.value11
  have a4 : (kindsB.getD e.kind.toNat ⟨#[]⟩).size ≤ 10 := kindsB_size _ (List.mem_of_getElem? (kinds_at (by have := hF.kind0; have := hF.kind1; omega)))
  have a5 : e.src.size ≤ 24 := (nameB_size hF.src).2
  have a6 : e.person.size ≤ 24 := hF.psize
  have a7 : e.item.size ≤ 24 := hF.isize
  have a8 : e.text.size ≤ 224 := hF.tsize
  have h9 := join_len (((wordsE e).map dotB).map (·.data.toList)) [32] 2000 (fun x hx => by
    obtain ⟨y, hy, rfl⟩ := List.mem_map.1 hx
    obtain ⟨z, hz, rfl⟩ := List.mem_map.1 hy
    have hd := dotB_size z
    have hdl : (dotB z).data.toList.length = (dotB z).size := by simp
    rw [hdl]
    simp only [wordsE, List.mem_cons, List.not_mem_nil, or_false] at hz
    rcases hz with rfl | rfl | rfl | rfl | rfl | rfl | rfl | rfl <;> (try rw [hi] at hd) <;> omega)
  have h8 : (fmtE e).size = (Lib.join (((wordsE e).map dotB).map (·.data.toList)) [32]).length := by show (Lib.join _ _).toArray.size = _; simp
  rw [h8]
  refine Nat.le_trans h9 ?_
  simp [wordsE]
theorem fmtE_size {e : Ev} (h : mayE e = true) : (fmtE e).size ≤ 999999 := Nat.le_trans (fmtE_small h) (by decide)
end Go.Proofs.YtmhkgfoimkonoaaDoor
