/-
  What is proved here: the program's Parse and the document's come to the same. No program is in sight. No condition but those told.
  what any text is parsed to, by the program and by the document. Conditions: a text of at most a million bytes.
-/
import Derived.Test.YtmhkgfoimkonoaaDoorEvParP
import Derived.Test.YtmhkgfoimkonoaaDoorEvRPar
namespace Go.Proofs.YtmhkgfoimkonoaaDoor
open Go Go.RowKit
theorem readI_ok {s : ByteArray} (h : 0 ≤ readI s) : digOk s = true ∧ digN s = readI s := by
  unfold readI at h ⊢
  cases h1 : (digOk s && !zeroB s)
  · rw [h1] at h; simp at h
  · rw [if_pos rfl]
    have h2 : digOk s = true := (Bool.and_eq_true _ _ ▸ h1 : _ ∧ _).1
    refine ⟨h2, ?_⟩
    unfold digN; rw [h2]; rfl
theorem undot_name {s : ByteArray} (h : nameB s = true) : undotB s = s := by
  have := undot_dot (nameB_dot h)
  rw [dot_name h] at this
  exact this
section
variable {s w0 w1 w2 w3 w4 w5 w6 w7 : ByteArray}
theorem par_back (h : (mayE (evQ w0 w1 w2 w3 w4 w5 w6 w7) && (fmtE (evQ w0 w1 w2 w3 w4 w5 w6 w7) == s)) = true) : evP w0 w1 w2 w3 w4 w5 w6 w7 = evQ w0 w1 w2 w3 w4 w5 w6 w7 ∧ parB s w0 w1 w2 w3 w4 w5 w6 w7 = true := by
  obtain ⟨h1, h2⟩ := (Bool.and_eq_true _ _ ▸ h : _ ∧ _)
  have hF := mayF h1
  have a1 := readI_ok (s := w1) hF.num00
  have a2 := readI_ok (s := w2) hF.tick0
  have a6 := readI_ok (s := w6) hF.value0
  have e : evP w0 w1 w2 w3 w4 w5 w6 w7 = evQ w0 w1 w2 w3 w4 w5 w6 w7 := by
    unfold evP evQ
    rw [a1.2, a2.2, a6.2, undot_name (s := w0) hF.src]
  refine ⟨e, ?_⟩
  unfold parB
  rw [e, a1.1, a2.1, a6.1, h1, h2]; rfl
theorem par_forth (hl : (partsL 32 s.data.toList).map bts = [w0, w1, w2, w3, w4, w5, w6, w7]) (h : parB s w0 w1 w2 w3 w4 w5 w6 w7 = true) : (mayE (evQ w0 w1 w2 w3 w4 w5 w6 w7) && (fmtE (evQ w0 w1 w2 w3 w4 w5 w6 w7) == s)) = true := by
  unfold parB at h
  simp only [Bool.and_eq_true] at h
  obtain ⟨⟨_, hm⟩, hs⟩ := h
  have hF := mayF hm
  have hs' := beqB_iff.1 hs
  have hw := fmt_parts hm
  rw [hs', hl] at hw
  simp only [wordsE, List.map_cons, List.map_nil, List.cons.injEq, and_true] at hw
  obtain ⟨e0, e1, e2, _, _, _, e6, _⟩ := hw
  rw [dot_name hF.src] at e0
  rw [dot_itoa hF.num00] at e1
  rw [dot_itoa hF.tick0] at e2
  rw [dot_itoa hF.value0] at e6
  have r1 := (digOk_itoa hF.num00 hF.num1).2.2
  have r2 := (digOk_itoa hF.tick0 hF.tick1).2.2
  have r6 := (digOk_itoa hF.value0 hF.value11).2.2
  rw [← e1] at r1
  rw [← e2] at r2
  rw [← e6] at r6
  have e : evQ w0 w1 w2 w3 w4 w5 w6 w7 = evP w0 w1 w2 w3 w4 w5 w6 w7 := by
    unfold evQ
    rw [r1, r2, r6]
    conv => lhs; rw [e0]
    rfl
  rw [e, hm, hs]; rfl
/-- What the program parses. -/
theorem par_same (hl : (partsL 32 s.data.toList).map bts = [w0, w1, w2, w3, w4, w5, w6, w7]) :
    (∃ e, parQ s w0 w1 w2 w3 w4 w5 w6 w7 = (e, true) ∧ parP s w0 w1 w2 w3 w4 w5 w6 w7 = (e, 0) ∧ mayE e = true ∧ fmtE e = s) ∨ (parQ s w0 w1 w2 w3 w4 w5 w6 w7 = (ev0, false) ∧ parP s w0 w1 w2 w3 w4 w5 w6 w7 = (ev0, 2)) := by
  cases h : (mayE (evQ w0 w1 w2 w3 w4 w5 w6 w7) && (fmtE (evQ w0 w1 w2 w3 w4 w5 w6 w7) == s))
  · right
    refine ⟨by unfold parQ; rw [h]; rfl, ?_⟩
    have hp : parB s w0 w1 w2 w3 w4 w5 w6 w7 = false := by
      cases h9 : parB s w0 w1 w2 w3 w4 w5 w6 w7
      · rfl
      · rw [par_forth hl h9] at h; cases h
    unfold parP; rw [hp]; rfl
  · left
    obtain ⟨e, hp⟩ := par_back h
    obtain ⟨h1, h2⟩ := (Bool.and_eq_true _ _ ▸ h : _ ∧ _)
    exact ⟨evQ w0 w1 w2 w3 w4 w5 w6 w7, by unfold parQ; rw [h]; rfl, by unfold parP; rw [hp, e]; rfl, h1, beqB_iff.1 h2⟩
end
theorem parts_sizes {c : UInt8} : ∀ {l : List UInt8} {p : List UInt8}, p ∈ partsL c l → p.length ≤ l.length
  | [], p, h => by simp [partsL] at h; rw [h]; simp
  | b :: l, p, h => by
    rw [partsL] at h
    by_cases hb : (b == c) = true
    · rw [if_pos hb] at h
      rcases List.mem_cons.1 h with rfl | h
      · simp
      · have := parts_sizes h; simp; omega
    · rw [if_neg hb] at h
      cases hq : partsL c l with
      | nil => exact absurd hq (parts_ne c l)
      | cons q qs =>
        rw [hq] at h
        rcases List.mem_cons.1 h with rfl | h
        · have := parts_sizes (c := c) (l := l) (p := q) (by rw [hq]; simp); simp; omega
        · have := parts_sizes (c := c) (l := l) (p := p) (by rw [hq]; simp [h]); simp; omega
theorem eight {α : Type} {l : List α} (h : l.length = 8) : ∃ a b c d e f g i, l = [a, b, c, d, e, f, g, i] := by
  match l, h with
  | [a, b, c, d, e, f, g, i], _ => exact ⟨a, b, c, d, e, f, g, i, rfl⟩
end Go.Proofs.YtmhkgfoimkonoaaDoor
namespace Go.Proofs.YtmhkgfoimkonoaaDoor
open Go Go.RowKit Go.Proofs
/-- The event whose text it is. -/
def parseE (s : ByteArray) : Option Ev := match (partsL 32 s.data.toList).map bts with
  | [w0, w1, w2, w3, w4, w5, w6, w7] => if (parQ s w0 w1 w2 w3 w4 w5 w6 w7).2 then some (parQ s w0 w1 w2 w3 w4 w5 w6 w7).1 else none
  | _ => none
theorem parseE_8 {s w0 w1 w2 w3 w4 w5 w6 w7 : ByteArray} (h : (partsL 32 s.data.toList).map bts = [w0, w1, w2, w3, w4, w5, w6, w7]) : parseE s = if (parQ s w0 w1 w2 w3 w4 w5 w6 w7).2 then some (parQ s w0 w1 w2 w3 w4 w5 w6 w7).1 else none := by
  unfold parseE; rw [h]
theorem parseE_len {s : ByteArray} (h : (partsL 32 s.data.toList).length ≠ 8) : parseE s = none := by
  unfold parseE
  split
  · rename_i h9
    have := congrArg List.length h9
    simp at this; exact absurd this h
  · rfl
theorem parseE_fmt {e : Ev} (h : mayE e = true) : parseE (fmtE e) = some e := by
  have hw := fmt_parts h
  simp only [wordsE, List.map_cons, List.map_nil] at hw
  rw [parseE_8 hw]
  have hp : parP (fmtE e) (dotB e.src) (dotB (itoaB e.num)) (dotB (itoaB e.tick)) (dotB (kindsB.getD e.kind.toNat ⟨#[]⟩)) (dotB e.person) (dotB e.item) (dotB (itoaB e.value)) (dotB e.text) = (e, 0) := by
    have hF := mayF h
    unfold parP
    rw [evP_fmt h, if_pos]
    unfold parB
    rw [evP_fmt h, h, beqB_self, dot_itoa hF.num00, dot_itoa hF.tick0, dot_itoa hF.value0, (digOk_itoa hF.num00 hF.num1).1, (digOk_itoa hF.tick0 hF.tick1).1, (digOk_itoa hF.value0 hF.value11).1]; rfl
  rcases par_same hw with ⟨e', h1, h2, _⟩ | ⟨_, h2⟩
  · rw [h1]
    rw [hp] at h2
    injection h2 with h2 _
    rw [h2]; rfl
  · rw [hp] at h2
    injection h2 with _ h2
    exact absurd h2 (by decide)
theorem both_Parse (s : ByteArray) (hs : s.size ≤ 999999) :
    (∃ e, parseE s = some e ∧ mayE e = true ∧ fmtE e = s ∧ (∀ w, Vars w → Calls Tryd.prog 42 #[.string s] w (ParPost w e 0)) ∧ ∀ w, Calls Tryd.prog 47 #[.string s] w (ParQost w e true)) ∨
    (parseE s = none ∧ (∀ w, Vars w → Calls Tryd.prog 42 #[.string s] w (ParPost w ev0 2)) ∧ ∀ w, Calls Tryd.prog 47 #[.string s] w (ParQost w ev0 false)) := by
  by_cases h8 : (partsL 32 s.data.toList).length = 8
  · obtain ⟨w0, w1, w2, w3, w4, w5, w6, w7, hl⟩ := eight (l := (partsL 32 s.data.toList).map bts) (by rw [List.length_map, h8])
    have hsz : ∀ x ∈ [w0, w1, w2, w3, w4, w5, w6, w7], x.size ≤ 999999 := by
      rw [← hl]
      intro x hx
      obtain ⟨p, hp, rfl⟩ := List.mem_map.1 hx
      have h1 := parts_sizes hp
      have h2 : s.data.toList.length = s.size := by simp
      rw [bts_size]; omega
    have hP := fun w hv => ev_Parse_8 s w0 w1 w2 w3 w4 w5 w6 w7 w hs hv hl hsz
    have hQ := fun w => ref_Parse_8 s w0 w1 w2 w3 w4 w5 w6 w7 w hs hl hsz
    have hE := parseE_8 hl
    rcases par_same hl with ⟨e, h1, h2, h3, h4⟩ | ⟨h1, h2⟩
    · rw [h2] at hP
      rw [h1] at hQ hE
      exact .inl ⟨e, hE, h3, h4, hP, hQ⟩
    · rw [h2] at hP
      rw [h1] at hQ hE
      exact .inr ⟨hE, hP, hQ⟩
  · exact .inr ⟨parseE_len h8, fun w hv => ev_Parse_len s w hs hv h8, fun w => ref_Parse_len s w hs h8⟩
theorem parseE_some {s : ByteArray} (hs : s.size ≤ 999999) {e : Ev} (h : parseE s = some e) : mayE e = true ∧ fmtE e = s := by
  rcases both_Parse s hs with ⟨e', h1, h2, h3, _⟩ | ⟨h1, _⟩
  · rw [h] at h1; rw [Option.some.inj h1]; exact ⟨h2, h3⟩
  · rw [h] at h1; cases h1
end Go.Proofs.YtmhkgfoimkonoaaDoor
