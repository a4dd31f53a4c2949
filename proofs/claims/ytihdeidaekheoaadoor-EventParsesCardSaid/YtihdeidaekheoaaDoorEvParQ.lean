/-
  What is proved here: the program's Parse and the document's come to the same. No program is in sight. No condition but those told.
-/
import Derived.Test.YtihdeidaekheoaaDoorEvParP
import Derived.Test.YtihdeidaekheoaaDoorEvRPar
namespace Go.Proofs.YtihdeidaekheoaaDoor
open Go Go.RowKit
theorem readI_ok {s : ByteArray} (h : 0 ≤ readI s) : digOk s = true ∧ digN s = readI s := by
  unfold readI at h ⊢
  cases h1 : (digOk s && !zeroB s)
  · rw [h1] at h; simp at h
  · rw [if_pos rfl]
    have h2 : digOk s = true := (Bool.and_eq_true _ _ ▸ h1 : _ ∧ _).1
    refine ⟨h2, ?_⟩
    unfold digN; rw [h2]; rfl
theorem undot_name {s : ByteArray} (h : nameB s = true) : undotB s = s := by
  have := undot_dot (nameB_dot h)
  rw [dot_name h] at this
  exact this
section
variable {s w0 w1 w2 w3 w4 w5 w6 w7 : ByteArray}
theorem par_back (h : (mayE (evQ w0 w1 w2 w3 w4 w5 w6 w7) && (fmtE (evQ w0 w1 w2 w3 w4 w5 w6 w7) == s)) = true) : evP w0 w1 w2 w3 w4 w5 w6 w7 = evQ w0 w1 w2 w3 w4 w5 w6 w7 ∧ parB s w0 w1 w2 w3 w4 w5 w6 w7 = true := by
  obtain ⟨h1, h2⟩ := (Bool.and_eq_true _ _ ▸ h : _ ∧ _)
  have hF := mayF h1
  have a1 := readI_ok (s := w1) hF.num00
  have a2 := readI_ok (s := w2) hF.tick0
  have a6 := readI_ok (s := w6) hF.value0
  have e : evP w0 w1 w2 w3 w4 w5 w6 w7 = evQ w0 w1 w2 w3 w4 w5 w6 w7 := by
    unfold evP evQ
    rw [a1.2, a2.2, a6.2, undot_name (s := w0) hF.src]
  refine ⟨e, ?_⟩
  unfold parB
  rw [e, a1.1, a2.1, a6.1, h1, h2]; rfl
theorem par_forth (hl : (partsL 32 s.data.toList).map bts = [w0, w1, w2, w3, w4, w5, w6, w7]) (h : parB s w0 w1 w2 w3 w4 w5 w6 w7 = true) : (mayE (evQ w0 w1 w2 w3 w4 w5 w6 w7) && (fmtE (evQ w0 w1 w2 w3 w4 w5 w6 w7) == s)) = true := by
  unfold parB at h
  simp only [Bool.and_eq_true] at h
  obtain ⟨⟨_, hm⟩, hs⟩ := h
  have hF := mayF hm
  have hs' := beqB_iff.1 hs
  have hw := fmt_parts hm
  rw [hs', hl] at hw
  simp only [wordsE, List.map_cons, List.map_nil, List.cons.injEq, and_true] at hw
  obtain ⟨e0, e1, e2, _, _, _, e6, _⟩ := hw
  rw [dot_name hF.src] at e0
  rw [dot_itoa hF.num00] at e1
  rw [dot_itoa hF.tick0] at e2
  rw [dot_itoa hF.value0] at e6
  have r1 := (digOk_itoa hF.num00 hF.num1).2.2
  have r2 := (digOk_itoa hF.tick0 hF.tick1).2.2
  have r6 := (digOk_itoa hF.value0 hF.value11).2.2
  rw [← e1] at r1
  rw [← e2] at r2
  rw [← e6] at r6
  have e : evQ w0 w1 w2 w3 w4 w5 w6 w7 = evP w0 w1 w2 w3 w4 w5 w6 w7 := by
    unfold evQ
    rw [r1, r2, r6]
    conv => lhs; rw [e0]
    rfl
  rw [e, hm, hs]; rfl
/-- What the program parses. -/
theorem par_same (hl : (partsL 32 s.data.toList).map bts = [w0, w1, w2, w3, w4, w5, w6, w7]) :
    (∃ e, parQ s w0 w1 w2 w3 w4 w5 w6 w7 = (e, true) ∧ parP s w0 w1 w2 w3 w4 w5 w6 w7 = (e, 0) ∧ mayE e = true ∧ fmtE e = s) ∨ (parQ s w0 w1 w2 w3 w4 w5 w6 w7 = (ev0, false) ∧ parP s w0 w1 w2 w3 w4 w5 w6 w7 = (ev0, 2)) := by
  cases h : (mayE (evQ w0 w1 w2 w3 w4 w5 w6 w7) && (fmtE (evQ w0 w1 w2 w3 w4 w5 w6 w7) == s))
  · right
    refine ⟨by unfold parQ; rw [h]; rfl, ?_⟩
    have hp : parB s w0 w1 w2 w3 w4 w5 w6 w7 = false := by
      cases h9 : parB s w0 w1 w2 w3 w4 w5 w6 w7
      · rfl
      · rw [par_forth hl h9] at h; cases h
    unfold parP; rw [hp]; rfl
  · left
    obtain ⟨e, hp⟩ := par_back h
    obtain ⟨h1, h2⟩ := (Bool.and_eq_true _ _ ▸ h : _ ∧ _)
    exact ⟨evQ w0 w1 w2 w3 w4 w5 w6 w7, by unfold parQ; rw [h]; rfl, by unfold parP; rw [hp, e]; rfl, h1, beqB_iff.1 h2⟩
end
theorem parts_sizes {c : UInt8} : ∀ {l : List UInt8} {p : List UInt8}, p ∈ partsL c l → p.length ≤ l.length
  | [], p, h => by simp [partsL] at h; rw [h]; simp
  | b :: l, p, h => by
    rw [partsL] at h
    by_cases hb : (b == c) = true
    · rw [if_pos hb] at h
      rcases List.mem_cons.1 h with rfl | h
      · simp
      · have := parts_sizes h; simp; omega
    · rw [if_neg hb] at h
      cases hq : partsL c l with
      | nil => exact absurd hq (parts_ne c l)
      | cons q qs =>
        rw [hq] at h
        rcases List.mem_cons.1 h with rfl | h
        · have := parts_sizes (c := c) (l := l) (p := q) (by rw [hq]; simp); simp; omega
        · have := parts_sizes (c := c) (l := l) (p := p) (by rw [hq]; simp [h]); simp; omega
theorem eight {α : Type} {l : List α} (h : l.length = 8) : ∃ a b c d e f g i, l = [a, b, c, d, e, f, g, i] := by
  match l, h with
  | [a, b, c, d, e, f, g, i], _ => exact ⟨a, b, c, d, e, f, g, i, rfl⟩
end Go.Proofs.YtihdeidaekheoaaDoor
