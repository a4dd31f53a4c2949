/-
  What is proved here: parts of lists, and how parts that are in order are merged to greater ones. No program is in sight. No condition.
-/
import Derived.Test.YtmhkgfoimkonoaaDoorSoP
namespace Go.Proofs.YtmhkgfoimkonoaaDoor
section
variable {α : Type} {lt : α → α → Bool}
def seg (d : List α) (i k : Nat) : List α := (d.drop i).take k
theorem seg_split (d : List α) (i k : Nat) : d = d.take i ++ seg d i k ++ d.drop (i + k) := by
  unfold seg
  rw [List.append_assoc]
  conv => lhs; rw [← List.take_append_drop i d]
  congr 1
  conv => lhs; rw [← List.take_append_drop k (d.drop i)]
  rw [List.drop_drop]
theorem seg_two (d : List α) (i k m : Nat) : d = d.take i ++ seg d i k ++ seg d (i + k) m ++ d.drop (i + k + m) := by
  have h1 := seg_split d i k
  have h2 : d.drop (i + k) = seg d (i + k) m ++ d.drop (i + k + m) := by
    unfold seg
    conv => lhs; rw [← List.take_append_drop m (d.drop (i + k))]
    rw [List.drop_drop]
  rw [h2] at h1
  rw [List.append_assoc]
  exact h1
theorem seg_pre {P R : List α} {i k : Nat} (h : i + k ≤ P.length) : seg (P ++ R) i k = seg P i k := by
  unfold seg
  rw [List.drop_append_of_le_length (by omega), List.take_append_of_le_length (by simp; omega)]
theorem seg_post {P R : List α} {i k : Nat} (h : P.length ≤ i) : seg (P ++ R) i k = seg R (i - P.length) k := by
  unfold seg
  rw [List.drop_append, List.drop_eq_nil_of_le h, List.nil_append]
theorem seg_len (d : List α) (i k : Nat) : (seg d i k).length = min k (d.length - i) := by
  unfold seg; rw [List.length_take, List.length_drop]
theorem seg_all {d : List α} {k : Nat} (h : d.length ≤ k) : seg d 0 k = d := by
  unfold seg; rw [List.drop_zero, List.take_of_length_le h]
theorem seg_end {d : List α} {i k : Nat} (h : d.length ≤ i) : seg d i k = [] := by
  unfold seg; rw [List.drop_eq_nil_of_le h, List.take_nil]
theorem seg_rest {d : List α} {i k : Nat} (h : d.length ≤ i + k) : seg d i k = d.drop i := by
  unfold seg; rw [List.take_of_length_le (by simp; omega)]
/-- A part in the midst is put anew: the parts ahead and behind stay. -/
theorem seg_same_lo {P X M Q : List α} {i k : Nat} (h : i + k ≤ P.length) : seg (P ++ M ++ Q) i k = seg (P ++ X ++ Q) i k := by
  rw [List.append_assoc, List.append_assoc, seg_pre h, seg_pre h]
theorem seg_same_hi {P X M Q : List α} {i k : Nat} (hl : M.length = X.length) (h : P.length + X.length ≤ i) : seg (P ++ M ++ Q) i k = seg (P ++ X ++ Q) i k := by
  have e1 : (P ++ M).length = (P ++ X).length := by simp [hl]
  rw [seg_post (P := P ++ M) (by rw [e1]; simp; omega), seg_post (P := P ++ X) (by simp; omega), e1]
theorem seg_new {P M Q : List α} : seg (P ++ M ++ Q) P.length M.length = M := by
  rw [List.append_assoc, seg_post (Nat.le_refl _), Nat.sub_self]
  unfold seg
  simp
theorem cls_mid {P X M Q : List α} (h : Cls lt X M) : Cls lt (P ++ X ++ Q) (P ++ M ++ Q) := ((Cls.refl P).app h).app (Cls.refl Q)
/-- Blocks of bs that are in order: those ahead of place t are merged in twos. -/
structure Mrg (lt : α → α → Bool) (bs t : Nat) (d : List α) : Prop where
  big : ∀ s, s < t → Srt lt (seg d (s * (2 * bs)) (2 * bs))
  small : ∀ s, 2 * t ≤ s → Srt lt (seg d (s * bs) bs)
theorem Mrg.zero {bs : Nat} {d : List α} (h : ∀ s, Srt lt (seg d (s * bs) bs)) : Mrg lt bs 0 d := ⟨fun _ h9 => by omega, fun s _ => h s⟩
theorem Mrg.parts {bs t : Nat} {d : List α} (h : Mrg lt bs t d) : Srt lt (seg d (t * (2 * bs)) bs) ∧ Srt lt (seg d (t * (2 * bs) + bs) bs) := by
  have e1 : 2 * t * bs = t * (2 * bs) := by rw [Nat.mul_comm 2 t, Nat.mul_assoc]
  have h1 := h.small (2 * t) (Nat.le_refl _)
  have h2 := h.small (2 * t + 1) (by omega)
  rw [e1] at h1
  rw [Nat.add_mul, e1, Nat.one_mul] at h2
  exact ⟨h1, h2⟩
theorem Mrg.step {bs t : Nat} {d M : List α} (h : Mrg lt bs t d) (hb : t * (2 * bs) + 2 * bs ≤ d.length) (hM : M.length = 2 * bs) (hs : Srt lt M) :
    Mrg lt bs (t + 1) (d.take (t * (2 * bs)) ++ M ++ d.drop (t * (2 * bs) + 2 * bs)) := by
  have hP : (d.take (t * (2 * bs))).length = t * (2 * bs) := by rw [List.length_take]; omega
  have hX : (seg d (t * (2 * bs)) (2 * bs)).length = 2 * bs := by rw [seg_len]; omega
  have hd := seg_split d (t * (2 * bs)) (2 * bs)
  refine ⟨fun s hs9 => ?_, fun s hs9 => ?_⟩
  · by_cases hst : s = t
    · subst hst
      have := seg_new (P := d.take (s * (2 * bs))) (M := M) (Q := d.drop (s * (2 * bs) + 2 * bs))
      rw [hP, hM] at this
      rw [this]; exact hs
    · have h1 : (s + 1) * (2 * bs) ≤ t * (2 * bs) := Nat.mul_le_mul_right _ (by omega)
      rw [Nat.add_mul, Nat.one_mul] at h1
      rw [seg_same_lo (X := seg d (t * (2 * bs)) (2 * bs)) (by rw [hP]; exact h1), ← hd]
      exact h.big s (by omega)
  · have h1 : (2 * (t + 1)) * bs ≤ s * bs := Nat.mul_le_mul_right _ hs9
    have e1 : 2 * (t + 1) * bs = t * (2 * bs) + 2 * bs := by rw [Nat.mul_add, Nat.add_mul, Nat.mul_comm 2 t, Nat.mul_assoc]
    rw [seg_same_hi (X := seg d (t * (2 * bs)) (2 * bs)) (by rw [hM, hX]) (by rw [hP, hX]; omega), ← hd]
    exact h.small s (by omega)
/-- All are merged. -/
theorem Mrg.last {bs t : Nat} {d : List α} (h : Mrg lt bs t d) (hb : d.length < t * (2 * bs) + 2 * bs) (hm : d.length ≤ t * (2 * bs) + bs) : ∀ s, Srt lt (seg d (s * (2 * bs)) (2 * bs)) := by
  intro s
  by_cases hst : s < t
  · exact h.big s hst
  · by_cases hs : s = t
    · subst hs
      have h1 := h.parts.1
      rw [seg_rest (by omega)] at h1
      rw [seg_rest (by omega)]; exact h1
    · have h1 : (t + 1) * (2 * bs) ≤ s * (2 * bs) := Nat.mul_le_mul_right _ (by omega)
      rw [Nat.add_mul, Nat.one_mul] at h1
      rw [seg_end (by omega)]; exact srt_nil
theorem Mrg.tail {bs t : Nat} {d M : List α} (h : Mrg lt bs t d) (hb : d.length < t * (2 * bs) + 2 * bs) (ha : t * (2 * bs) ≤ d.length) (hM : M.length = d.length - t * (2 * bs)) (hs : Srt lt M) :
    ∀ s, Srt lt (seg (d.take (t * (2 * bs)) ++ M) (s * (2 * bs)) (2 * bs)) := by
  have hP : (d.take (t * (2 * bs))).length = t * (2 * bs) := by rw [List.length_take]; omega
  intro s
  by_cases hst : s < t
  · have h1 : (s + 1) * (2 * bs) ≤ t * (2 * bs) := Nat.mul_le_mul_right _ (by omega)
    rw [Nat.add_mul, Nat.one_mul] at h1
    rw [seg_pre (by rw [hP]; exact h1)]
    have h2 := h.big s hst
    rw [← List.take_append_drop (t * (2 * bs)) d, seg_pre (by rw [hP]; exact h1)] at h2
    exact h2
  · by_cases hs9 : s = t
    · subst hs9
      rw [seg_post (by rw [hP]; exact Nat.le_refl _), hP, Nat.sub_self, seg_all (by omega)]; exact hs
    · have h1 : (t + 1) * (2 * bs) ≤ s * (2 * bs) := Nat.mul_le_mul_right _ (by omega)
      rw [Nat.add_mul, Nat.one_mul] at h1
      rw [seg_end (by rw [List.length_append, hP]; omega)]; exact srt_nil
/-- The first blocks are in order. -/
def Blk (lt : α → α → Bool) (bs t : Nat) (d : List α) : Prop := ∀ s, s < t → Srt lt (seg d (s * bs) bs)
theorem Blk.step {bs t : Nat} {d M : List α} (h : Blk lt bs t d) (hb : t * bs + bs ≤ d.length) (hM : M.length = bs) (hs : Srt lt M) : Blk lt bs (t + 1) (d.take (t * bs) ++ M ++ d.drop (t * bs + bs)) := by
  have hP : (d.take (t * bs)).length = t * bs := by rw [List.length_take]; omega
  have hX : (seg d (t * bs) bs).length = bs := by rw [seg_len]; omega
  have hd := seg_split d (t * bs) bs
  intro s hs9
  by_cases hst : s = t
  · subst hst
    have := seg_new (P := d.take (s * bs)) (M := M) (Q := d.drop (s * bs + bs))
    rw [hP, hM] at this
    rw [this]; exact hs
  · have h1 : (s + 1) * bs ≤ t * bs := Nat.mul_le_mul_right _ (by omega)
    rw [Nat.add_mul, Nat.one_mul] at h1
    rw [seg_same_lo (X := seg d (t * bs) bs) (by rw [hP]; exact h1), ← hd]
    exact h s (by omega)
theorem Blk.last {bs t : Nat} {d M : List α} (h : Blk lt bs t d) (ha : t * bs ≤ d.length) (hb : d.length < t * bs + bs) (hM : M.length = d.length - t * bs) (hs : Srt lt M) : ∀ s, Srt lt (seg (d.take (t * bs) ++ M) (s * bs) bs) := by
  have hP : (d.take (t * bs)).length = t * bs := by rw [List.length_take]; omega
  intro s
  by_cases hst : s < t
  · have h1 : (s + 1) * bs ≤ t * bs := Nat.mul_le_mul_right _ (by omega)
    rw [Nat.add_mul, Nat.one_mul] at h1
    rw [seg_pre (by rw [hP]; exact h1)]
    have h2 := h s hst
    rw [← List.take_append_drop (t * bs) d, seg_pre (by rw [hP]; exact h1)] at h2
    exact h2
  · by_cases hs9 : s = t
    · subst hs9
      rw [seg_post (by rw [hP]; exact Nat.le_refl _), hP, Nat.sub_self, seg_all (by omega)]; exact hs
    · have h1 : (t + 1) * bs ≤ s * bs := Nat.mul_le_mul_right _ (by omega)
      rw [Nat.add_mul, Nat.one_mul] at h1
      rw [seg_end (by rw [List.length_append, hP]; omega)]; exact srt_nil
end
end Go.Proofs.YtmhkgfoimkonoaaDoor
