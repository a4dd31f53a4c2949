/-
  What is proved here: texts parted at a sign, as the library parts them. No program is in sight. No condition.
-/
import Derived.Test.YtkfcbafmefdhmaaDoorBase2
import Derived.Lib.Split
import Derived.Lib.SplitLaws
import Derived.Lib.IndexBytes
import Derived.Lib.Join
namespace Go.Proofs.YtkfcbafmefdhmaaDoor
open Go Go.RowKit

/-! ### texts parted at a sign -/
def bts (l : List UInt8) : ByteArray := ⟨l.toArray⟩
theorem bts_data (l : List UInt8) : (bts l).data.toList = l := by simp [bts]
theorem bts_of (s : ByteArray) : bts s.data.toList = s := by cases s; simp [bts]
theorem bts_size (l : List UInt8) : (bts l).size = l.length := by show l.toArray.size = _; simp
theorem bts_inj {a b : List UInt8} (h : bts a = bts b) : a = b := by rw [← bts_data a, ← bts_data b, h]
def aheadL (c : UInt8) (l : List UInt8) : List UInt8 := l.takeWhile (· != c)
def behindL (c : UInt8) (l : List UInt8) : List UInt8 := (l.dropWhile (· != c)).drop 1
def hasL (c : UInt8) (l : List UInt8) : Bool := l.any (· == c)
def partsL (c : UInt8) : List UInt8 → List (List UInt8)
  | [] => [[]]
  | b :: l => if b == c then [] :: partsL c l else match partsL c l with
    | [] => [[b]]
    | p :: ps => (b :: p) :: ps
def freeL (c : UInt8) (l : List UInt8) : Prop := ∀ x ∈ l, x ≠ c
theorem partsL_none {c : UInt8} : ∀ {l : List UInt8}, freeL c l → partsL c l = [l]
  | [], _ => rfl
  | b :: l, h => by
    have hb : (b == c) = false := by simpa using h b (by simp)
    rw [partsL, partsL_none (fun x hx => h x (by simp [hx])), hb]; rfl
theorem partsL_hit {c : UInt8} {r : List UInt8} : ∀ {a : List UInt8}, freeL c a → partsL c (a ++ c :: r) = a :: partsL c r
  | [], _ => by simp [partsL]
  | b :: l, h => by
    have hb : (b == c) = false := by simpa using h b (by simp)
    rw [List.cons_append, partsL, partsL_hit (a := l) (fun x hx => h x (by simp [hx])), hb]; rfl
theorem cut_none {c : UInt8} : ∀ {l : List UInt8}, freeL c l → aheadL c l = l ∧ behindL c l = [] ∧ hasL c l = false
  | [], _ => ⟨rfl, rfl, rfl⟩
  | b :: l, h => by
    have hb : (b != c) = true := by simpa using h b (by simp)
    have hb' : (b == c) = false := by simpa using h b (by simp)
    obtain ⟨h1, h2, h3⟩ := cut_none (l := l) (fun x hx => h x (by simp [hx]))
    unfold aheadL behindL hasL at *
    refine ⟨?_, ?_, ?_⟩
    · rw [List.takeWhile_cons, if_pos hb, h1]
    · rw [List.dropWhile_cons, if_pos hb, h2]
    · rw [List.any_cons, h3, hb']; rfl
theorem cut_hit {c : UInt8} {r : List UInt8} : ∀ {a : List UInt8}, freeL c a → aheadL c (a ++ c :: r) = a ∧ behindL c (a ++ c :: r) = r ∧ hasL c (a ++ c :: r) = true
  | [], _ => by simp [aheadL, behindL, hasL]
  | b :: l, h => by
    have hb : (b != c) = true := by simpa using h b (by simp)
    obtain ⟨h1, h2, h3⟩ := cut_hit (a := l) (r := r) (fun x hx => h x (by simp [hx]))
    unfold aheadL behindL hasL at *
    rw [List.cons_append]
    refine ⟨?_, ?_, ?_⟩
    · rw [List.takeWhile_cons, if_pos hb, h1]
    · rw [List.dropWhile_cons, if_pos hb, h2]
    · rw [List.any_cons, h3]; simp
/-- A text without the sign, or parted at its first place. -/
theorem cut_cases (c : UInt8) (l : List UInt8) : freeL c l ∨ ∃ a r, freeL c a ∧ l = a ++ c :: r := by
  induction l with
  | nil => exact .inl (fun _ h => by simp at h)
  | cons b l ih =>
    by_cases hb : b = c
    · subst hb; exact .inr ⟨[], l, fun _ h => by simp at h, rfl⟩
    · rcases ih with h | ⟨a, r, ha, rfl⟩
      · refine .inl (fun x hx => ?_)
        rcases List.mem_cons.1 hx with rfl | hx
        · exact hb
        · exact h x hx
      · refine .inr ⟨b :: a, r, fun x hx => ?_, rfl⟩
        rcases List.mem_cons.1 hx with rfl | hx
        · exact hb
        · exact ha x hx
theorem parts_ne (c : UInt8) (l : List UInt8) : partsL c l ≠ [] := by
  rcases cut_cases c l with h | ⟨a, r, h, rfl⟩
  · rw [partsL_none h]; simp
  · rw [partsL_hit h]; simp

/-! ### as the library has it -/
theorem occ_one (c : UInt8) (l : List UInt8) (i : Nat) : Lib.occAt l [c] i = (l[i]? == some c) := by
  unfold Lib.occAt
  cases h : l[i]? with
  | none =>
    have : l.drop i = [] := List.drop_eq_nil_of_le (by simpa using h)
    rw [this]; rfl
  | some x =>
    have hi := (List.getElem?_eq_some_iff.1 h).1
    rw [List.drop_eq_getElem_cons hi, (List.getElem?_eq_some_iff.1 h).2]
    simp [List.isPrefixOf]
    rw [Bool.eq_iff_iff]; simp; exact eq_comm
theorem index_none {c : UInt8} {l : List UInt8} (h : freeL c l) : Lib.index l [c] = -1 := by
  rcases Lib.index_spec l [c] with ⟨h1, _⟩ | ⟨i, _, _, h3, _⟩
  · exact h1
  · rw [occ_one] at h3
    have := beq_iff_eq.1 h3
    exact absurd rfl (h c (List.mem_of_getElem? this))
theorem index_hit {c : UInt8} {a r : List UInt8} (h : freeL c a) : Lib.index (a ++ c :: r) [c] = a.length := by
  refine Lib.index_first (by simp) ?_ (fun j hj => ?_)
  · rw [occ_one]; simp
  · rw [occ_one, List.getElem?_append_left hj, List.getElem?_eq_getElem hj]
    have := h a[j] (List.getElem_mem hj)
    simpa using this
theorem lib_cut (c : UInt8) (l : List UInt8) : Lib.cut l [c] = (aheadL c l, behindL c l, hasL c l) := by
  rcases cut_cases c l with h | ⟨a, r, h, rfl⟩
  · obtain ⟨h1, h2, h3⟩ := cut_none h
    unfold Lib.cut
    rw [index_none h, if_neg (by decide), h1, h2, h3]
  · obtain ⟨h1, h2, h3⟩ := cut_hit (r := r) h
    unfold Lib.cut
    rw [index_hit h, if_pos (by omega), h1, h2, h3]
    simp
theorem lib_split (c : UInt8) : ∀ (n : Nat) (s : ByteArray), s.size ≤ n → Lib.splitB (bts [c]) 0 (Lib.countB s (bts [c])) s = (partsL c s.data.toList).map bts := by
  intro n
  induction n with
  | zero =>
    intro s hs
    have h0 : s.data.toList = [] := List.eq_nil_of_length_eq_zero (by rw [Array.length_toList]; exact Nat.le_zero.1 hs)
    have hi : Lib.indexB s (bts [c]) = -1 := by
      show Lib.index s.data.toList (bts [c]).data.toList = -1
      rw [bts_data]; exact index_none (by rw [h0]; exact fun _ h => by simp at h)
    rw [Lib.countB_miss _ _ hi, Lib.splitB_zero, h0]
    show [s] = [bts []]
    rw [← h0, bts_of]
  | succ n ih =>
    intro s hs
    rcases cut_cases c s.data.toList with h | ⟨a, r, h, hl⟩
    · have hi : Lib.indexB s (bts [c]) = -1 := by
        show Lib.index s.data.toList (bts [c]).data.toList = -1
        rw [bts_data]; exact index_none h
      rw [Lib.countB_miss _ _ hi, Lib.splitB_zero, partsL_none h]
      show [s] = [bts _]
      rw [bts_of]
    · have hi : Lib.indexB s (bts [c]) = a.length := by
        show Lib.index s.data.toList (bts [c]).data.toList = a.length
        rw [bts_data, hl]; exact index_hit h
      have hsz : s.size = a.length + 1 + r.length := by
        have : s.size = s.data.toList.length := by simp
        rw [this, hl]; simp; omega
      have hr : s.extract (a.length + (bts [c]).size) s.size = bts r := by
        apply ByteArray.ext
        rw [← Array.toList_inj, Lib.extract_to_end, bts_data, hl, bts_size]
        simp
      have ha : s.extract 0 (a.length + 0) = bts a := by
        apply ByteArray.ext
        rw [← Array.toList_inj, Lib.extract_from_zero, bts_data, hl]
        simp
      rw [Lib.countB_hit s (bts [c]) a.length (by rw [bts_size]; simp) hi, Nat.add_comm 1, Lib.splitB_hit _ _ _ _ _ hi, hr, ha, ih (bts r) (by rw [bts_size]; omega), hl, partsL_hit h, bts_data]
      rfl
theorem lib_count (c : UInt8) (s : ByteArray) : Lib.countB s (bts [c]) + 1 = (partsL c s.data.toList).length := by
  have h1 := lib_split c s.size s (Nat.le_refl _)
  have h2 := Lib.splitB_all (bts [c]) (by rw [bts_size]; simp) 0 _ s rfl
  rw [h1, List.length_map] at h2
  exact h2.symm

theorem mem_parts_size (c : UInt8) : ∀ (l : List UInt8) (p : List UInt8), p ∈ partsL c l → p.length ≤ l.length := by
  intro l
  induction l with
  | nil => intro p hp; simp [partsL] at hp; subst hp; simp
  | cons b l ih =>
    intro p hp
    simp only [partsL] at hp
    split at hp
    · rcases List.mem_cons.1 hp with rfl | hp
      · simp
      · have := ih p hp; simp; omega
    · split at hp
      · rename_i h; exact absurd h (parts_ne c l)
      · rename_i q ps h
        rcases List.mem_cons.1 hp with rfl | hp
        · have := ih q (by rw [h]; simp); simp; omega
        · have := ih p (by rw [h]; simp [hp]); simp; omega
theorem behind_len (c : UInt8) (l : List UInt8) : (behindL c l).length ≤ l.length := by
  rcases cut_cases c l with h | ⟨a, r, h, rfl⟩
  · rw [(cut_none h).2.1]; simp
  · rw [(cut_hit h).2.1]; simp; omega
theorem ahead_len (c : UInt8) (l : List UInt8) : (aheadL c l).length ≤ l.length := by
  rcases cut_cases c l with h | ⟨a, r, h, rfl⟩
  · rw [(cut_none h).1]; exact Nat.le_refl _
  · rw [(cut_hit h).1]; simp
theorem parts_len (c : UInt8) : ∀ l : List UInt8, (partsL c l).length ≤ l.length + 1 := by
  intro l
  induction l with
  | nil => simp [partsL]
  | cons b l ih =>
    simp only [partsL]
    split
    · simp; omega
    · split
      · simp
      · rename_i q ps h
        rw [h] at ih; simp at ih ⊢; omega
theorem parts_join (c : UInt8) : ∀ (l : List (List UInt8)), l ≠ [] → (∀ x ∈ l, freeL c x) → partsL c (Lib.join l [c]) = l
  | [], h, _ => absurd rfl h
  | [x], _, h => by
    have : Lib.join [x] [c] = x := by simp [Lib.join, List.intercalate]
    rw [this]
    exact partsL_none (h x (by simp))
  | x :: y :: r, _, h => by
    have : Lib.join (x :: y :: r) [c] = x ++ c :: Lib.join (y :: r) [c] := by simp [Lib.join, List.intercalate]
    rw [this, partsL_hit (h x (by simp)), parts_join c (y :: r) (by simp) (fun z hz => h z (by simp [List.mem_cons.1 hz]))]
theorem join_inj {c : UInt8} {l m : List (List UInt8)} (hl : l ≠ []) (hm : m ≠ []) (fl : ∀ x ∈ l, freeL c x) (fm : ∀ x ∈ m, freeL c x) (h : Lib.join l [c] = Lib.join m [c]) : l = m := by
  rw [← parts_join c l hl fl, h, parts_join c m hm fm]
theorem parts_all (c : UInt8) : ∀ (l : List UInt8) (x : UInt8), x ∈ l → x = c ∨ ∃ p ∈ partsL c l, x ∈ p
  | [], _, h => by cases h
  | b :: l, x, h => by
    rw [partsL]
    by_cases hb : (b == c) = true
    · rw [if_pos hb]
      rcases List.mem_cons.1 h with rfl | h
      · exact .inl (by simpa using hb)
      · rcases parts_all c l x h with h | ⟨p, hp, hx⟩
        · exact .inl h
        · exact .inr ⟨p, by simp [hp], hx⟩
    · rw [if_neg hb]
      cases hp : partsL c l with
      | nil => exact absurd hp (parts_ne c l)
      | cons q qs =>
        rcases List.mem_cons.1 h with rfl | h
        · exact .inr ⟨x :: q, by simp, by simp⟩
        · rcases parts_all c l x h with h | ⟨p, hp', hx⟩
          · exact .inl h
          · rw [hp] at hp'
            rcases List.mem_cons.1 hp' with rfl | hp'
            · exact .inr ⟨b :: p, by simp, by simp [hx]⟩
            · exact .inr ⟨p, by simp [hp'], hx⟩
end Go.Proofs.YtkfcbafmefdhmaaDoor
