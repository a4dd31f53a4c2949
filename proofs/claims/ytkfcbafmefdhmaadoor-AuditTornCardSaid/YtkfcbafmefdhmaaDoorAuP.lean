/-
  What is defined and proved here: what any bytes are decoded to, as a plain function; what is decoded is encoded as it was; what was encoded is decoded; beginnings of it. No program is in sight. No condition.
-/
import Derived.Test.YtkfcbafmefdhmaaDoorAuDec1
import Derived.Test.YtkfcbafmefdhmaaDoorCheck
namespace Go.Proofs.YtkfcbafmefdhmaaDoor
open Go Go.RowKit
/-- What a line does: a chain, or what is wrong. -/
inductive StD where
  | ok (seed : Int) (es : List Ent)
  | no (c : Int)
def firstD (l : List UInt8) : StD := match headP l with | some n => .ok n [] | none => .no 2
def entD (seed : Int) (es : List Ent) (l : List UInt8) : StD := match entP l with | some E => if E.sum = sumE (aheadOf seed es) E then .ok seed (es ++ [E]) else .no 4 | none => .no 2
def lineD (n : Nat) (seed : Int) (es : List Ent) (l : List UInt8) : StD := if n = 0 then firstD l else entD seed es l
structure DecR where
  ch : Option (Int × List Ent)
  n : Nat
  code : Int
def decS : Nat → Int → List Ent → Nat → List UInt8 → DecR
  | 0, _, _, n, _ => ⟨none, n, 3⟩
  | f + 1, seed, es, n, rest => if n ≠ 0 ∧ rest = [] then ⟨some (seed, es), n, 0⟩ else if hasL 10 rest then (match lineD n seed es (aheadL 10 rest) with
      | .no c => ⟨none, n, c⟩
      | .ok s' es' => decS f s' es' (n + 1) (behindL 10 rest)) else ⟨none, n, 3⟩
def decD (l : List UInt8) : DecR := decS (l.length + 1) 0 [] 0 l
theorem behind_lt {c : UInt8} {l : List UInt8} (h : hasL c l = true) : (behindL c l).length < l.length ∧ l = aheadL c l ++ c :: behindL c l := by
  rcases cut_cases c l with hf | ⟨a, r, hf, rfl⟩
  · rw [(cut_none hf).2.2] at h; cases h
  · obtain ⟨h1, h2, _⟩ := cut_hit (r := r) hf
    rw [h1, h2]
    exact ⟨by simp; omega, rfl⟩
theorem entP_five {l : List UInt8} {E : Ent} (h : entP l = some E) : ∃ w0 w1 w2 w3 w4, partsL 32 l = [w0, w1, w2, w3, w4] := by
  have h5 : (partsL 32 l).length = 5 := by
    by_cases h9 : (partsL 32 l).length = 5
    · exact h9
    · rw [entP_none h9] at h; cases h
  match hp : partsL 32 l, h5 with
  | [a, b, c, d, e], _ => exact ⟨a, b, c, d, e, rfl⟩
theorem entP_some {l : List UInt8} {E : Ent} (h : entP l = some E) : mayE E = true ∧ lineL E = l ∧ 0 ≤ E.sum ∧ E.sum < 18446744073709551616 := by
  obtain ⟨w0, w1, w2, w3, w4, hl⟩ := entP_five h
  obtain ⟨a, b, u, rfl, _, _, _, h1, h2, h3⟩ := entP_back hl h
  exact ⟨h1, h2, by show (0 : Int) ≤ (u : Int); omega, by show (u : Int) < _; omega⟩
/-- Entries that are right, one behind the other. -/
def Right (seed : Int) (es : List Ent) : Prop := checkL seed es = es.length
theorem aheadOf_cons (seed : Int) (e : Ent) (es : List Ent) : aheadOf seed (e :: es) = aheadOf e.sum es := by
  unfold aheadOf
  cases es with
  | nil => rfl
  | cons x xs =>
    have : (e :: x :: xs).getLast? = (x :: xs).getLast? := by simp [List.getLast?_cons]
    rw [this]
    cases h : (x :: xs).getLast? with
    | none => simp at h
    | some y => rfl
theorem check_le : ∀ (es : List Ent) (seed : Int), checkL seed es ≤ es.length
  | [], _ => Nat.le_refl _
  | e :: es, seed => by
    unfold checkL
    have := check_le es e.sum
    split
    · simp; omega
    · exact Nat.zero_le _
theorem right_cons {seed : Int} {e : Ent} {es : List Ent} : Right seed (e :: es) ↔ mayE e = true ∧ e.sum = sumE seed e ∧ Right e.sum es := by
  unfold Right
  rw [checkL]
  have := check_le es e.sum
  cases h : (mayE e && decide (e.sum = sumE seed e)) with
  | false =>
    simp only [Bool.false_eq_true, if_false, List.length_cons]
    constructor
    · intro h9; omega
    · rintro ⟨h1, h2, _⟩
      rw [h1, Bool.true_and, decide_eq_false_iff_not] at h
      exact absurd h2 h
  | true =>
    rw [Bool.and_eq_true, decide_eq_true_eq] at h
    simp only [if_true, List.length_cons]
    constructor
    · intro h9; exact ⟨h.1, h.2, by omega⟩
    · rintro ⟨_, _, h3⟩; omega
theorem check_snoc : ∀ (es : List Ent) (seed : Int) (E : Ent), Right seed es → checkL seed (es ++ [E]) = if mayE E && decide (E.sum = sumE (aheadOf seed es) E) then es.length + 1 else es.length
  | [], seed, E, _ => by
    show checkL seed [E] = _
    rw [checkL]
    rfl
  | e :: es, seed, E, h => by
    obtain ⟨h1, h2, h3⟩ := right_cons.1 h
    have ih := check_snoc es e.sum E h3
    rw [List.cons_append, checkL, aheadOf_cons]
    have hb : (mayE e && decide (e.sum = sumE seed e)) = true := by rw [h1, Bool.true_and]; exact decide_eq_true h2
    rw [if_pos hb, ih]
    split <;> simp
theorem right_snoc {seed : Int} {es : List Ent} {E : Ent} (h : Right seed es) (h1 : mayE E = true) (h2 : E.sum = sumE (aheadOf seed es) E) : Right seed (es ++ [E]) := by
  unfold Right
  rw [check_snoc es seed E h, h1, Bool.true_and, if_pos (decide_eq_true h2)]; simp
theorem right_may : ∀ {es : List Ent} {seed : Int}, Right seed es → ∀ e ∈ es, mayE e = true
  | [], _, _, _, h => by cases h
  | x :: es, seed, h, e, he => by
    obtain ⟨h1, _, h3⟩ := right_cons.1 h
    rcases List.mem_cons.1 he with rfl | he
    · exact h1
    · exact right_may h3 e he
theorem linesL_app (es : List Ent) (E : Ent) : linesL (es ++ [E]) = linesL es ++ (lineL E ++ [10]) := by
  unfold linesL; rw [List.flatMap_append]; simp
/-- From here on: n lines are read, the chain so far, the rest. -/
structure DecAt (l : List UInt8) (seed : Int) (es : List Ent) (n : Nat) (rest : List UInt8) : Prop where
  eq : ∃ f, rest.length < f ∧ decD l = decS f seed es n rest
  right : Right seed es
  len : n ≠ 0 → es.length + 1 = n
  zero : n = 0 → seed = 0 ∧ es = []
  seed0 : 0 ≤ seed
  seed1 : seed < 18446744073709551616
  back : n ≠ 0 → encL seed es ++ rest = l
  sums : ∀ e ∈ es, 0 ≤ e.sum ∧ e.sum < 18446744073709551616
  rst : n = 0 → rest = l
theorem DecAt.start (l : List UInt8) : DecAt l 0 [] 0 l :=
  ⟨⟨l.length + 1, by omega, rfl⟩, rfl, fun h => absurd rfl h, fun _ => ⟨rfl, rfl⟩, by decide, by decide, fun h => absurd rfl h, fun _ h => by (cases h), fun _ => rfl⟩
section
variable {l : List UInt8} {seed : Int} {es : List Ent} {n : Nat} {rest : List UInt8}
theorem DecAt.done (h : DecAt l seed es n rest) (hn : n ≠ 0) (hr : rest = []) : decD l = ⟨some (seed, es), n, 0⟩ := by
  obtain ⟨f, hf, e⟩ := h.eq
  cases f with
  | zero => omega
  | succ f => rw [e, decS, if_pos ⟨hn, hr⟩]
theorem DecAt.torn (h : DecAt l seed es n rest) (hn : n = 0 ∨ rest ≠ []) (hr : hasL 10 rest = false) : decD l = ⟨none, n, 3⟩ := by
  obtain ⟨f, hf, e⟩ := h.eq
  cases f with
  | zero => omega
  | succ f =>
    rw [e, decS, if_neg (fun h9 => by rcases hn with h8 | h8; exact h9.1 h8; exact h8 h9.2), hr]; rfl
theorem hasL_ne {c : UInt8} {l : List UInt8} (h : hasL c l = true) : l ≠ [] := by rintro rfl; simp [hasL] at h
theorem DecAt.bad (h : DecAt l seed es n rest) (hr : hasL 10 rest = true) {c : Int} (hl : lineD n seed es (aheadL 10 rest) = .no c) : decD l = ⟨none, n, c⟩ := by
  obtain ⟨f, hf, e⟩ := h.eq
  cases f with
  | zero => omega
  | succ f => rw [e, decS, if_neg (fun h9 => hasL_ne hr h9.2), if_pos hr, hl]
theorem DecAt.next (h : DecAt l seed es n rest) (hr : hasL 10 rest = true) {s' : Int} {es' : List Ent} (hl : lineD n seed es (aheadL 10 rest) = .ok s' es') : DecAt l s' es' (n + 1) (behindL 10 rest) := by
  obtain ⟨f, hf, e⟩ := h.eq
  obtain ⟨hb, hc⟩ := behind_lt hr
  have hE : ∃ f, (behindL 10 rest).length < f ∧ decD l = decS f s' es' (n + 1) (behindL 10 rest) := by
    cases f with
    | zero => omega
    | succ f => exact ⟨f, by omega, by rw [e, decS, if_neg (fun h9 => hasL_ne hr h9.2), if_pos hr, hl]⟩
  unfold lineD at hl
  by_cases hn : n = 0
  · rw [if_pos hn] at hl
    unfold firstD at hl
    cases hp : headP (aheadL 10 rest) with
    | none => rw [hp] at hl; cases hl
    | some u =>
      rw [hp] at hl
      injection hl with h1 h2
      subst h1 h2 hn
      obtain ⟨a1, a2, _⟩ := headP_back hp
      refine ⟨hE, rfl, fun _ => rfl, fun h9 => absurd h9 (by omega), by omega, by omega, fun _ => ?_, fun _ h => by (cases h), fun h9 => absurd h9 (by omega)⟩
      unfold encL
      rw [a2, ← h.rst rfl]
      conv => rhs; rw [hc]
      simp [linesL]
  · rw [if_neg hn] at hl
    unfold entD at hl
    cases hp : entP (aheadL 10 rest) with
    | none => rw [hp] at hl; cases hl
    | some E =>
      rw [hp] at hl
      dsimp only at hl
      by_cases hs : E.sum = sumE (aheadOf seed es) E
      · rw [if_pos hs] at hl
        injection hl with h1 h2
        subst h1 h2
        obtain ⟨a1, a2, a3, a4⟩ := entP_some hp
        refine ⟨hE, right_snoc h.right a1 hs, fun _ => by rw [List.length_append, ← h.len hn]; rfl, fun h9 => absurd h9 (by omega), h.seed0, h.seed1, fun _ => ?_, fun x hx => ?_, fun h9 => absurd h9 (by omega)⟩
        · have hk := h.back hn
          rw [← hk]
          conv => rhs; rw [hc]
          unfold encL
          rw [linesL_app, a2]
          simp
        · rcases List.mem_append.1 hx with hx | hx
          · exact h.sums x hx
          · simp at hx; subst hx; exact ⟨a3, a4⟩
      · rw [if_neg hs] at hl; cases hl
theorem lineL_ge (e : Ent) : 4 ≤ (lineL e).length := by
  unfold lineL
  simp [Lib.join, List.intercalate, List.intersperse]; omega
theorem linesL_ge : ∀ es : List Ent, 5 * es.length ≤ (linesL es).length
  | [] => by simp [linesL]
  | e :: es => by
    have := linesL_ge es
    have h4 := lineL_ge e
    have h5 : linesL (e :: es) = lineL e ++ [10] ++ linesL es := by simp [linesL]
    rw [h5]; simp; omega
theorem lineL_mem : ∀ {es : List Ent} {e : Ent}, e ∈ es → (lineL e).length ≤ (linesL es).length
  | [], _, h => by cases h
  | x :: es, e, h => by
    have h5 : linesL (x :: es) = lineL x ++ [10] ++ linesL es := by simp [linesL]
    rw [h5]
    rcases List.mem_cons.1 h with rfl | h
    · simp
    · have := lineL_mem h
      simp; omega
theorem DecAt.few (h : DecAt l seed es n rest) : 5 * es.length ≤ l.length ∧ ∀ e ∈ es, (lineL e).length ≤ l.length := by
  by_cases hn : n = 0
  · obtain ⟨_, rfl⟩ := h.zero hn
    exact ⟨by simp, fun _ h => by (cases h)⟩
  · have hk := h.back hn
    have h1 := linesL_ge es
    have h2 : (linesL es).length ≤ l.length := by rw [← hk]; unfold encL; simp; omega
    exact ⟨by omega, fun e he => by have := lineL_mem he; omega⟩
theorem DecAt.restLe (h : DecAt l seed es n rest) : rest.length ≤ l.length := by
  by_cases hn : n = 0
  · rw [h.rst hn]; exact Nat.le_refl _
  · rw [← h.back hn]; simp
theorem DecAt.ok (h : DecAt l seed es n rest) (hl : l.length ≤ 100000) : ∀ e ∈ es, EntOk e := by
  intro e he
  obtain ⟨m1, m2, m3, m4, m5, m6, m7⟩ := mayE_parts' (right_may h.right e he)
  have hp := nameB_size m5
  obtain ⟨s1, s2⟩ := h.sums e he
  have := h.few.2 e he
  exact ⟨m6, by omega, fun s hs => by have := nameB_size (List.all_eq_true.1 m7 s hs); omega, m1, by omega, m3, m4, s1, s2, by omega⟩
end
end Go.Proofs.YtkfcbafmefdhmaaDoor
