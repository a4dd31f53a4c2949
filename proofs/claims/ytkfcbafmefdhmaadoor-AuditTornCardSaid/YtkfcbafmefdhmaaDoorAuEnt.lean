/-
  What is defined and proved here: the entry that a line is, as a plain function; the program's test (the numbers, may, the line again) comes to it. No program is in sight. No condition.
-/
import Derived.Test.YtkfcbafmefdhmaaDoorAuLst
import Derived.Test.YtkfcbafmefdhmaaDoorChain5
namespace Go.Proofs.YtkfcbafmefdhmaaDoor
open Go Go.RowKit
theorem toList_inj {s t : ByteArray} (h : s.data.toList = t.data.toList) : s = t := by
  apply ByteArray.ext
  exact Array.ext' h
theorem join_parts (c : UInt8) (l : List UInt8) : Lib.join (partsL c l) [c] = l := by
  suffices ∀ (n : Nat) (l : List UInt8), l.length ≤ n → Lib.join (partsL c l) [c] = l from this l.length l (Nat.le_refl _)
  intro n
  induction n with
  | zero =>
    intro l h
    have : l = [] := List.eq_nil_of_length_eq_zero (by omega)
    subst this; simp [partsL, Lib.join, List.intercalate]
  | succ n ih =>
    intro l h
    rcases cut_cases c l with hf | ⟨a, r, hf, rfl⟩
    · rw [partsL_none hf]; simp [Lib.join, List.intercalate]
    · rw [partsL_hit hf]
      have hr := ih r (by simp at h; omega)
      cases hp : partsL c r with
      | nil => exact absurd hp (parts_ne c r)
      | cons y ys =>
        have : Lib.join (a :: y :: ys) [c] = a ++ c :: Lib.join (y :: ys) [c] := by simp [Lib.join, List.intercalate]
        rw [this, ← hp, hr]
def itemsP (w : List UInt8) : List ByteArray := if w == [46] then [] else (partsL 44 w).map bts
theorem itemsL_P (w : List UInt8) : itemsL (itemsP w) = w := by
  unfold itemsP
  cases h : (w == [46])
  · rw [if_neg (by decide)]
    unfold itemsL
    have hne : ((partsL 44 w).map bts).length ≠ 0 := by
      rw [List.length_map]; intro h9; exact parts_ne 44 w (List.eq_nil_of_length_eq_zero h9)
    rw [if_neg hne, List.map_map]
    have : (partsL 44 w).map ((fun s : ByteArray => s.data.toList) ∘ bts) = partsL 44 w := by
      conv => rhs; rw [← List.map_id (partsL 44 w)]
      apply List.map_congr_left
      intro x _
      exact bts_data x
    rw [this, join_parts]
  · rw [if_pos rfl, beq_iff_eq.1 h]; rfl
/-- The entry of five words, if the numbers are numbers. -/
def entW (a b u : Nat) (w2 w3 : List UInt8) : Ent := ⟨a, b, bts w2, itemsP w3, u⟩
def entF (w0 w1 w2 w3 w4 : List UInt8) : Option Ent :=
  match numOf w0, numOf w1, numOf w4 with
  | some a, some b, some u => if mayE (entW a b u w2 w3) then some (entW a b u w2 w3) else none
  | _, _, _ => none
def entP (l : List UInt8) : Option Ent :=
  match partsL 32 l with
  | [w0, w1, w2, w3, w4] => entF w0 w1 w2 w3 w4
  | _ => none
theorem nameB_free {s : ByteArray} {c : UInt8} (hc : okByte c = false) (h : nameB s = true) : freeL c s.data.toList := by
  intro x hx e
  unfold nameB at h
  simp only [Bool.and_eq_true, List.all_eq_true] at h
  have := h.2 x hx
  rw [e, hc] at this
  cases this
theorem dec_free {c : UInt8} (hc : digitB c = false) (u : Nat) : freeL c (Lib.decDigits u) := fun x hx e => by
  have := digitB_iff.2 ((digits_val u).2 x hx)
  rw [e, hc] at this
  cases this
theorem join_free {c d : UInt8} (hcd : d ≠ c) : ∀ (l : List (List UInt8)), (∀ x ∈ l, freeL c x) → freeL c (Lib.join l [d])
  | [], _ => by intro x hx; simp [Lib.join, List.intercalate] at hx
  | [x], h => by
    have : Lib.join [x] [d] = x := by simp [Lib.join, List.intercalate]
    rw [this]; exact h x (by simp)
  | x :: y :: r, h => by
    have : Lib.join (x :: y :: r) [d] = x ++ d :: Lib.join (y :: r) [d] := by simp [Lib.join, List.intercalate]
    rw [this]
    intro z hz e
    rcases List.mem_append.1 hz with hz | hz
    · exact h x (by simp) z hz e
    · rcases List.mem_cons.1 hz with hz | hz
      · exact hcd (by rw [← hz, e])
      · exact join_free hcd (y :: r) (fun q hq => h q (by simp [List.mem_cons.1 hq])) z hz e
theorem items_free {c : UInt8} (hc : okByte c = false) (h46 : c ≠ 46) (h44 : (44 : UInt8) ≠ c) {l : List ByteArray} (h : l.all nameB = true) : freeL c (itemsL l) := by
  unfold itemsL
  split
  · intro x hx e
    simp at hx
    exact h46 (by rw [← e, hx])
  · refine join_free h44 _ (fun x hx => ?_)
    obtain ⟨s, hs, rfl⟩ := List.mem_map.1 hx
    exact nameB_free hc (List.all_eq_true.1 h s hs)
theorem mayE_parts' {e : Ent} (h : mayE e = true) : 0 ≤ e.off ∧ e.off ≤ 1048576 ∧ 0 ≤ e.now ∧ e.now ≤ 1099511627776 ∧ nameB e.person = true ∧ e.items.length ≤ 1000 ∧ e.items.all nameB = true := by
  unfold mayE at h
  simp only [Bool.and_eq_true, decide_eq_true_eq] at h
  exact ⟨h.1.1.1.1.1.1, h.1.1.1.1.1.2, h.1.1.1.1.2, h.1.1.1.2, h.1.1.2, h.1.2, h.2⟩
/-- The words of an entry's line. -/
theorem line_words {e : Ent} (h : mayE e = true) : partsL 32 (lineL e) = [Lib.itoa e.off, Lib.itoa e.now, e.person.data.toList, itemsL e.items, Lib.decDigits e.sum.toNat] := by
  obtain ⟨h1, _, h3, _, h5, _, h7⟩ := mayE_parts' h
  unfold lineL
  refine parts_join 32 _ (by simp) (fun x hx => ?_)
  obtain ⟨a, ha⟩ : ∃ a : Nat, e.off = a := ⟨e.off.toNat, by omega⟩
  obtain ⟨b, hb⟩ : ∃ b : Nat, e.now = b := ⟨e.now.toNat, by omega⟩
  simp only [List.mem_cons, List.not_mem_nil, or_false] at hx
  rcases hx with rfl | rfl | rfl | rfl | rfl
  · rw [ha, Lib.itoa_nonneg]; exact dec_free (by decide) a
  · rw [hb, Lib.itoa_nonneg]; exact dec_free (by decide) b
  · exact nameB_free (by decide) h5
  · exact items_free (by decide) (by decide) (by decide) h7
  · exact dec_free (by decide) _
/-- The program's test comes to it. -/
theorem entP_forth {l w0 w1 w2 w3 w4 : List UInt8} (hl : partsL 32 l = [w0, w1, w2, w3, w4]) {x y : Int} {u : Nat} (h0 : Lib.atoiAll w0 = .ok x) (h1 : Lib.atoiAll w1 = .ok y) (h4 : Lib.parseUintB 64 w4 = .ok u)
    (hm : mayE (⟨x, y, bts w2, itemsP w3, u⟩ : Ent) = true) (hs : lineL (⟨x, y, bts w2, itemsP w3, u⟩ : Ent) = l) : entP l = some ⟨x, y, bts w2, itemsP w3, u⟩ := by
  have hw := line_words hm
  rw [hs, hl] at hw
  simp only [List.cons.injEq, and_true] at hw
  obtain ⟨e0, e1, _, _, e4⟩ := hw
  obtain ⟨p1, _, p3, _, _, _, _⟩ := mayE_parts' hm
  have n0 := atoi_back h0 p1 e0.symm
  have n1 := atoi_back h1 p3 e1.symm
  have n4 := parseU_back h4 (by simpa using e4.symm)
  have ex : ((x.toNat : Nat) : Int) = x := Int.toNat_of_nonneg p1
  have ey : ((y.toNat : Nat) : Int) = y := Int.toNat_of_nonneg p3
  unfold entP
  rw [hl]
  show entF w0 w1 w2 w3 w4 = _
  unfold entF
  rw [n0, n1, n4]
  show (if mayE (entW x.toNat y.toNat u w2 w3) then some (entW x.toNat y.toNat u w2 w3) else none) = _
  unfold entW
  rw [ex, ey, if_pos hm]
theorem entP_back {l w0 w1 w2 w3 w4 : List UInt8} (hl : partsL 32 l = [w0, w1, w2, w3, w4]) {E : Ent} (h : entP l = some E) :
    ∃ a b u : Nat, E = entW a b u w2 w3 ∧ Lib.atoiAll w0 = .ok (a : Int) ∧ Lib.atoiAll w1 = .ok (b : Int) ∧ Lib.parseUintB 64 w4 = .ok u ∧ mayE E = true ∧ lineL E = l ∧ u < 18446744073709551616 := by
  unfold entP at h
  rw [hl] at h
  have h' : entF w0 w1 w2 w3 w4 = some E := h
  unfold entF at h'
  cases n0 : numOf w0 with
  | none => rw [n0] at h'; cases h'
  | some a =>
    cases n1 : numOf w1 with
    | none => rw [n0, n1] at h'; cases h'
    | some b =>
      cases n4 : numOf w4 with
      | none => rw [n0, n1, n4] at h'; cases h'
      | some u =>
        rw [n0, n1, n4] at h'
        have h2 : (if mayE (entW a b u w2 w3) then some (entW a b u w2 w3) else none) = some E := h'
        cases hm : mayE (entW a b u w2 w3) with
        | false => rw [hm] at h2; cases h2
        | true =>
          rw [hm, if_pos rfl] at h2
          injection h2 with h2
          subst h2
          obtain ⟨p1, p2, p3, p4, _, _, _⟩ := mayE_parts' hm
          have q2 : (a : Int) ≤ 1048576 := p2
          have q4 : (b : Int) ≤ 1099511627776 := p4
          refine ⟨a, b, u, rfl, atoi_num n0 (by omega), atoi_num n1 (by omega), parseU_num n4, hm, ?_, (numOf_iff.1 n4).1⟩
          unfold lineL
          show Lib.join [Lib.itoa (a : Int), Lib.itoa (b : Int), (bts w2).data.toList, itemsL (itemsP w3), Lib.decDigits (Int.toNat (u : Int))] [32] = l
          rw [Lib.itoa_nonneg, Lib.itoa_nonneg, (numOf_iff.1 n0).2, (numOf_iff.1 n1).2, bts_data, itemsL_P, Int.toNat_natCast, (numOf_iff.1 n4).2, ← hl, join_parts]
theorem entP_none {l : List UInt8} (h : (partsL 32 l).length ≠ 5) : entP l = none := by
  unfold entP
  match hp : partsL 32 l with
  | [] => rfl
  | [_] => rfl
  | [_, _] => rfl
  | [_, _, _] => rfl
  | [_, _, _, _] => rfl
  | [_, _, _, _, _] => rw [hp] at h; simp at h
  | _ :: _ :: _ :: _ :: _ :: _ :: _ => rfl
end Go.Proofs.YtkfcbafmefdhmaaDoor
