/-
  What is proved here: what was encoded is decoded, and so are beginnings of it, as plain functions. No program is in sight. No condition.
-/
import Derived.Test.YtkfcbafmefdhmaaDoorAuP
namespace Go.Proofs.YtkfcbafmefdhmaaDoor
open Go Go.RowKit
theorem itemsP_L {items : List ByteArray} (h : items.all nameB = true) : itemsP (itemsL items) = items := by
  unfold itemsP
  cases items with
  | nil => rfl
  | cons x xs =>
    have hL : itemsL (x :: xs) = Lib.join ((x :: xs).map (·.data.toList)) [44] := by unfold itemsL; rw [if_neg (by simp)]
    have hfree : ∀ c : UInt8, okByte c = false → ∀ y ∈ (x :: xs).map (fun s : ByteArray => s.data.toList), freeL c y := by
      intro c hc y hy
      obtain ⟨s, hs, rfl⟩ := List.mem_map.1 hy
      exact nameB_free hc (List.all_eq_true.1 h s hs)
    have h46 : freeL 46 (itemsL (x :: xs)) := by rw [hL]; exact join_free (by decide) _ (hfree 46 (by decide))
    have hne : (itemsL (x :: xs) == [46]) = false := by
      rw [beq_eq_false_iff_ne]
      intro e
      exact h46 46 (by rw [e]; simp) rfl
    rw [if_neg (by rw [hne]; decide), hL, parts_join 44 _ (by simp) (hfree 44 (by decide)), List.map_map]
    conv => rhs; rw [← List.map_id (x :: xs)]
    apply List.map_congr_left
    intro s _
    exact bts_of s
theorem numOf_dec {u : Nat} (h : u < 18446744073709551616) : numOf (Lib.decDigits u) = some u := numOf_iff.2 ⟨h, rfl⟩
theorem entP_line {E : Ent} (hm : mayE E = true) (h0 : 0 ≤ E.sum) (h1 : E.sum < 18446744073709551616) : entP (lineL E) = some E := by
  have hw := line_words hm
  obtain ⟨p1, p2, p3, p4, p5, p6, p7⟩ := mayE_parts' hm
  obtain ⟨off, now, person, items, sum⟩ := E
  simp only at p1 p2 p3 p4 p5 p6 p7 h0 h1 hw
  obtain ⟨a, rfl⟩ : ∃ a : Nat, off = a := ⟨off.toNat, by omega⟩
  obtain ⟨b, rfl⟩ : ∃ b : Nat, now = b := ⟨now.toNat, by omega⟩
  obtain ⟨u, rfl⟩ : ∃ u : Nat, sum = u := ⟨sum.toNat, by omega⟩
  rw [Lib.itoa_nonneg, Lib.itoa_nonneg, Int.toNat_natCast] at hw
  unfold entP
  rw [hw]
  show entF (Lib.decDigits a) (Lib.decDigits b) person.data.toList (itemsL items) (Lib.decDigits u) = _
  unfold entF
  rw [numOf_dec (by omega), numOf_dec (by omega), numOf_dec (by omega)]
  show (if mayE (entW a b u person.data.toList (itemsL items)) then some (entW a b u person.data.toList (itemsL items)) else none) = _
  unfold entW
  rw [itemsP_L p7, bts_of, if_pos hm]
theorem line_free {E : Ent} (hm : mayE E = true) : freeL 10 (lineL E) := by
  obtain ⟨h1, _, h3, _, h5, _, h7⟩ := mayE_parts' hm
  unfold lineL
  refine join_free (by decide) _ (fun x hx => ?_)
  obtain ⟨a, ha⟩ : ∃ a : Nat, E.off = a := ⟨E.off.toNat, by omega⟩
  obtain ⟨b, hb⟩ : ∃ b : Nat, E.now = b := ⟨E.now.toNat, by omega⟩
  simp only [List.mem_cons, List.not_mem_nil, or_false] at hx
  rcases hx with rfl | rfl | rfl | rfl | rfl
  · rw [ha, Lib.itoa_nonneg]; exact dec_free (by decide) a
  · rw [hb, Lib.itoa_nonneg]; exact dec_free (by decide) b
  · exact nameB_free (by decide) h5
  · exact items_free (by decide) (by decide) (by decide) h7
  · exact dec_free (by decide) _
theorem head_free (n : Int) : freeL 10 (headL n) := by
  unfold headL
  intro x hx
  rcases List.mem_append.1 hx with hx | hx
  · intro e; subst e; revert hx; decide
  · exact dec_free (by decide) _ x hx
theorem headP_head {n : Int} (h0 : 0 ≤ n) (h1 : n < 18446744073709551616) : headP (headL n) = some n.toNat := by
  unfold headP headL
  have h2 : Lib.hasPrefix ([97, 117, 100, 105, 116, 32] ++ Lib.decDigits n.toNat) aud6 = true := by
    unfold Lib.hasPrefix
    simp [aud6]
  rw [if_pos h2]
  show numOf (Lib.decDigits n.toNat) = _
  exact numOf_dec (by omega)
def cnt10 (l : List UInt8) : Nat := l.countP (· == 10)
theorem cnt_free {l : List UInt8} (h : freeL 10 l) : cnt10 l = 0 := by
  unfold cnt10
  rw [List.countP_eq_zero]
  intro x hx
  have := h x hx
  simpa using this
theorem cnt_hit {a r : List UInt8} (h : freeL 10 a) : cnt10 (a ++ 10 :: r) = 1 + cnt10 r := by
  have := cnt_free h
  unfold cnt10 at *
  rw [List.countP_append, this, List.countP_cons]; simp; omega
theorem last_ne {l : List UInt8} (h : freeL 10 l) : l.getLast? ≠ some 10 := fun e => h 10 (List.mem_of_getLast? e) rfl
theorem last_hit (a r : List UInt8) : (a ++ 10 :: r).getLast? = if r = [] then some 10 else r.getLast? := by
  cases r with
  | nil => simp
  | cons x xs => simp [List.getLast?_append, List.getLast?_cons]
theorem hasL_free {l : List UInt8} (h : freeL 10 l) : hasL 10 l = false := (cut_none h).2.2
theorem linesL_cons (e : Ent) (es : List Ent) : linesL (e :: es) = lineL e ++ 10 :: linesL es := by simp [linesL]
theorem pre_cases {p A B : List UInt8} (h : p <+: A ++ 10 :: B) : p <+: A ∨ ∃ p', p = A ++ 10 :: p' ∧ p' <+: B := by
  obtain ⟨r, hr⟩ := h
  rcases List.append_eq_append_iff.1 hr with ⟨a', h1, _⟩ | ⟨c', h1, h2⟩
  · exact .inl ⟨a', h1.symm⟩
  · cases c' with
    | nil => exact .inl ⟨[], by rw [h1]; simp⟩
    | cons x c'' =>
      rw [List.cons_append] at h2
      injection h2 with e1 e2
      subst e1
      exact .inr ⟨c'', h1, r, e2.symm⟩
theorem dec_prefix : ∀ (es es0 : List Ent) (seed : Int) (n f : Nat) (p : List UInt8), n ≠ 0 → p <+: linesL es → p.length < f → Right (aheadOf seed es0) es → (∀ e ∈ es, 0 ≤ e.sum ∧ e.sum < 18446744073709551616) →
    decS f seed es0 n p = if p = [] ∨ p.getLast? = some 10 then ⟨some (seed, es0 ++ es.take (cnt10 p)), n + cnt10 p, 0⟩ else ⟨none, n + cnt10 p, 3⟩
  | es, es0, seed, n, 0, p, _, _, hf, _, _ => by omega
  | [], es0, seed, n, f + 1, p, hn, hp, hf, _, _ => by
    have : p = [] := by simpa [linesL] using hp
    subst this
    rw [decS, if_pos ⟨hn, rfl⟩, if_pos (.inl rfl)]
    simp [cnt10]
  | e :: es, es0, seed, n, f + 1, p, hn, hp, hf, hr, hs => by
    obtain ⟨r1, r2, r3⟩ := right_cons.1 hr
    have hfr := line_free r1
    rw [linesL_cons] at hp
    by_cases h0 : p = []
    · subst h0
      rw [decS, if_pos ⟨hn, rfl⟩, if_pos (.inl rfl)]
      simp [cnt10]
    · rcases pre_cases hp with ⟨q, hq⟩ | ⟨p', rfl, hp'⟩
      · have hpf : freeL 10 p := fun x hx => hfr x (by rw [← hq]; simp [hx])
        rw [decS, if_neg (fun h9 => h0 h9.2), hasL_free hpf, if_neg (by decide), if_neg (fun h9 => by rcases h9 with h9 | h9; exact h0 h9; exact last_ne hpf h9), cnt_free hpf]
        rfl
      · obtain ⟨c1, c2, c3⟩ := cut_hit (r := p') hfr
        obtain ⟨s0, s1⟩ := hs e (by simp)
        have hl : lineD n seed es0 (lineL e) = .ok seed (es0 ++ [e]) := by
          unfold lineD
          rw [if_neg hn]
          unfold entD
          rw [entP_line r1 s0 s1]
          dsimp only
          rw [if_pos r2]
        rw [decS, if_neg (fun h9 => h0 h9.2), c3, if_pos rfl, c1, c2, hl]
        dsimp only
        have ha : aheadOf seed (es0 ++ [e]) = e.sum := by unfold aheadOf; simp
        have ih := dec_prefix es (es0 ++ [e]) seed (n + 1) f p' (by omega) hp' (by simp at hf; omega) (by rw [ha]; exact r3) (fun x hx => hs x (by simp [hx]))
        rw [ih, last_hit, cnt_hit hfr]
        have ht : es0 ++ (e :: es).take (1 + cnt10 p') = es0 ++ [e] ++ es.take (cnt10 p') := by
          rw [Nat.add_comm, List.take_succ_cons]; simp
        rw [ht, show n + (1 + cnt10 p') = n + 1 + cnt10 p' by omega]
        by_cases h9 : p' = []
        · subst h9; simp
        · rw [if_neg h9]
          simp [h9]
/-- Any beginning of what was encoded. -/
theorem decD_prefix {seed : Int} {es : List Ent} {p : List UInt8} (h0 : 0 ≤ seed) (h1 : seed < 18446744073709551616) (hr : Right seed es) (hs : ∀ e ∈ es, 0 ≤ e.sum ∧ e.sum < 18446744073709551616) (hp : p <+: encL seed es) :
    decD p = if p.getLast? = some 10 then ⟨some (seed, es.take (cnt10 p - 1)), cnt10 p, 0⟩ else ⟨none, cnt10 p, 3⟩ := by
  have hE : encL seed es = headL seed ++ 10 :: linesL es := by unfold encL; simp
  rw [hE] at hp
  have hfr := head_free seed
  unfold decD
  rcases pre_cases hp with ⟨q, hq⟩ | ⟨p', rfl, hp'⟩
  · have hpf : freeL 10 p := fun x hx => hfr x (by rw [← hq]; simp [hx])
    rw [decS, if_neg (fun h9 => h9.1 rfl), hasL_free hpf, if_neg (by decide), if_neg (last_ne hpf), cnt_free hpf]
  · obtain ⟨c1, c2, c3⟩ := cut_hit (r := p') hfr
    have hl : lineD 0 0 [] (headL seed) = .ok seed [] := by
      unfold lineD firstD
      rw [if_pos rfl, headP_head h0 h1]
      show StD.ok ((seed.toNat : Nat) : Int) [] = _
      rw [Int.toNat_of_nonneg h0]
    rw [decS, if_neg (fun h9 => h9.1 rfl), c3, if_pos rfl, c1, c2, hl]
    dsimp only
    rw [dec_prefix es [] seed (0 + 1) _ p' (by omega) hp' (by simp; omega) hr hs, last_hit, cnt_hit hfr]
    by_cases h9 : p' = []
    · subst h9; simp
    · rw [if_neg h9]
      simp [h9]
theorem cnt_lines : ∀ {es : List Ent}, (∀ e ∈ es, mayE e = true) → cnt10 (linesL es) = es.length
  | [], _ => rfl
  | e :: es, h => by
    rw [linesL_cons, cnt_hit (line_free (h e (by simp))), cnt_lines (fun x hx => h x (by simp [hx]))]; simp; omega
theorem last_lines : ∀ (es : List Ent), es ≠ [] → (linesL es).getLast? = some 10
  | [], h => absurd rfl h
  | e :: es, _ => by
    rw [linesL_cons, last_hit]
    split
    · rfl
    · rename_i h9
      exact last_lines es (fun h8 => h9 (by rw [h8]; rfl))
theorem decD_enc {seed : Int} {es : List Ent} (h0 : 0 ≤ seed) (h1 : seed < 18446744073709551616) (hr : Right seed es) (hs : ∀ e ∈ es, 0 ≤ e.sum ∧ e.sum < 18446744073709551616) : decD (encL seed es) = ⟨some (seed, es), 1 + es.length, 0⟩ := by
  have hE : encL seed es = headL seed ++ 10 :: linesL es := by unfold encL; simp
  have hc : cnt10 (encL seed es) = 1 + es.length := by rw [hE, cnt_hit (head_free seed), cnt_lines (fun e he => right_may hr e he)]
  have hl : (encL seed es).getLast? = some 10 := by
    rw [hE, last_hit]
    cases es with
    | nil => rfl
    | cons e es =>
      rw [if_neg (by rw [linesL_cons]; simp)]
      exact last_lines _ (by simp)
  rw [decD_prefix h0 h1 hr hs (List.prefix_refl _), if_pos hl, hc, Nat.add_sub_cancel_left, List.take_length]
end Go.Proofs.YtkfcbafmefdhmaaDoor
