/-
  What is defined here: events, and what they come to, as plain functions; texts parted at a sign; how an event lies in memory. No condition.
-/
import Derived.Test.YtdkgphambjnbiaaDoorBase
import Derived.Lib.Split
import Derived.Lib.SplitLaws
import Derived.Lib.IndexBytes
namespace Go.Proofs.YtdkgphambjnbiaaDoor
open Go Go.RowKit

/-! ### texts parted at a sign -/
def bts (l : List UInt8) : ByteArray := ⟨l.toArray⟩
theorem bts_data (l : List UInt8) : (bts l).data.toList = l := by simp [bts]
theorem bts_of (s : ByteArray) : bts s.data.toList = s := by cases s; simp [bts]
theorem bts_size (l : List UInt8) : (bts l).size = l.length := by show l.toArray.size = _; simp
theorem bts_inj {a b : List UInt8} (h : bts a = bts b) : a = b := by rw [← bts_data a, ← bts_data b, h]
def aheadL (c : UInt8) (l : List UInt8) : List UInt8 := l.takeWhile (· != c)
def behindL (c : UInt8) (l : List UInt8) : List UInt8 := (l.dropWhile (· != c)).drop 1
def hasL (c : UInt8) (l : List UInt8) : Bool := l.any (· == c)
def partsL (c : UInt8) : List UInt8 → List (List UInt8)
  | [] => [[]]
  | b :: l => if b == c then [] :: partsL c l else match partsL c l with
    | [] => [[b]]
    | p :: ps => (b :: p) :: ps
def freeL (c : UInt8) (l : List UInt8) : Prop := ∀ x ∈ l, x ≠ c
theorem partsL_none {c : UInt8} : ∀ {l : List UInt8}, freeL c l → partsL c l = [l]
  | [], _ => rfl
  | b :: l, h => by
    have hb : (b == c) = false := by simpa using h b (by simp)
    rw [partsL, partsL_none (fun x hx => h x (by simp [hx])), hb]; rfl
theorem partsL_hit {c : UInt8} {r : List UInt8} : ∀ {a : List UInt8}, freeL c a → partsL c (a ++ c :: r) = a :: partsL c r
  | [], _ => by simp [partsL]
  | b :: l, h => by
    have hb : (b == c) = false := by simpa using h b (by simp)
    rw [List.cons_append, partsL, partsL_hit (a := l) (fun x hx => h x (by simp [hx])), hb]; rfl
theorem cut_none {c : UInt8} : ∀ {l : List UInt8}, freeL c l → aheadL c l = l ∧ behindL c l = [] ∧ hasL c l = false
  | [], _ => ⟨rfl, rfl, rfl⟩
  | b :: l, h => by
    have hb : (b != c) = true := by simpa using h b (by simp)
    have hb' : (b == c) = false := by simpa using h b (by simp)
    obtain ⟨h1, h2, h3⟩ := cut_none (l := l) (fun x hx => h x (by simp [hx]))
    unfold aheadL behindL hasL at *
    refine ⟨?_, ?_, ?_⟩
    · rw [List.takeWhile_cons, if_pos hb, h1]
    · rw [List.dropWhile_cons, if_pos hb, h2]
    · rw [List.any_cons, h3, hb']; rfl
theorem cut_hit {c : UInt8} {r : List UInt8} : ∀ {a : List UInt8}, freeL c a → aheadL c (a ++ c :: r) = a ∧ behindL c (a ++ c :: r) = r ∧ hasL c (a ++ c :: r) = true
  | [], _ => by simp [aheadL, behindL, hasL]
  | b :: l, h => by
    have hb : (b != c) = true := by simpa using h b (by simp)
    obtain ⟨h1, h2, h3⟩ := cut_hit (a := l) (r := r) (fun x hx => h x (by simp [hx]))
    unfold aheadL behindL hasL at *
    rw [List.cons_append]
    refine ⟨?_, ?_, ?_⟩
    · rw [List.takeWhile_cons, if_pos hb, h1]
    · rw [List.dropWhile_cons, if_pos hb, h2]
    · rw [List.any_cons, h3]; simp
/-- A text without the sign, or parted at its first place. -/
theorem cut_cases (c : UInt8) (l : List UInt8) : freeL c l ∨ ∃ a r, freeL c a ∧ l = a ++ c :: r := by
  induction l with
  | nil => exact .inl (fun _ h => by simp at h)
  | cons b l ih =>
    by_cases hb : b = c
    · subst hb; exact .inr ⟨[], l, fun _ h => by simp at h, rfl⟩
    · rcases ih with h | ⟨a, r, ha, rfl⟩
      · refine .inl (fun x hx => ?_)
        rcases List.mem_cons.1 hx with rfl | hx
        · exact hb
        · exact h x hx
      · refine .inr ⟨b :: a, r, fun x hx => ?_, rfl⟩
        rcases List.mem_cons.1 hx with rfl | hx
        · exact hb
        · exact ha x hx
theorem parts_ne (c : UInt8) (l : List UInt8) : partsL c l ≠ [] := by
  rcases cut_cases c l with h | ⟨a, r, h, rfl⟩
  · rw [partsL_none h]; simp
  · rw [partsL_hit h]; simp

/-! ### as the library has it -/
theorem occ_one (c : UInt8) (l : List UInt8) (i : Nat) : Lib.occAt l [c] i = (l[i]? == some c) := by
  unfold Lib.occAt
  cases h : l[i]? with
  | none =>
    have : l.drop i = [] := List.drop_eq_nil_of_le (by simpa using h)
    rw [this]; rfl
  | some x =>
    have hi := (List.getElem?_eq_some_iff.1 h).1
    rw [List.drop_eq_getElem_cons hi, (List.getElem?_eq_some_iff.1 h).2]
    simp [List.isPrefixOf]
    rw [Bool.eq_iff_iff]; simp; exact eq_comm
theorem index_none {c : UInt8} {l : List UInt8} (h : freeL c l) : Lib.index l [c] = -1 := by
  rcases Lib.index_spec l [c] with ⟨h1, _⟩ | ⟨i, _, _, h3, _⟩
  · exact h1
  · rw [occ_one] at h3
    have := beq_iff_eq.1 h3
    exact absurd rfl (h c (List.mem_of_getElem? this))
theorem index_hit {c : UInt8} {a r : List UInt8} (h : freeL c a) : Lib.index (a ++ c :: r) [c] = a.length := by
  refine Lib.index_first (by simp) ?_ (fun j hj => ?_)
  · rw [occ_one]; simp
  · rw [occ_one, List.getElem?_append_left hj, List.getElem?_eq_getElem hj]
    have := h a[j] (List.getElem_mem hj)
    simpa using this
theorem lib_cut (c : UInt8) (l : List UInt8) : Lib.cut l [c] = (aheadL c l, behindL c l, hasL c l) := by
  rcases cut_cases c l with h | ⟨a, r, h, rfl⟩
  · obtain ⟨h1, h2, h3⟩ := cut_none h
    unfold Lib.cut
    rw [index_none h, if_neg (by decide), h1, h2, h3]
  · obtain ⟨h1, h2, h3⟩ := cut_hit (r := r) h
    unfold Lib.cut
    rw [index_hit h, if_pos (by omega), h1, h2, h3]
    simp
theorem lib_split (c : UInt8) : ∀ (n : Nat) (s : ByteArray), s.size ≤ n → Lib.splitB (bts [c]) 0 (Lib.countB s (bts [c])) s = (partsL c s.data.toList).map bts := by
  intro n
  induction n with
  | zero =>
    intro s hs
    have h0 : s.data.toList = [] := List.eq_nil_of_length_eq_zero (by rw [Array.length_toList]; exact Nat.le_zero.1 hs)
    have hi : Lib.indexB s (bts [c]) = -1 := by
      show Lib.index s.data.toList (bts [c]).data.toList = -1
      rw [bts_data]; exact index_none (by rw [h0]; exact fun _ h => by simp at h)
    rw [Lib.countB_miss _ _ hi, Lib.splitB_zero, h0]
    show [s] = [bts []]
    rw [← h0, bts_of]
  | succ n ih =>
    intro s hs
    rcases cut_cases c s.data.toList with h | ⟨a, r, h, hl⟩
    · have hi : Lib.indexB s (bts [c]) = -1 := by
        show Lib.index s.data.toList (bts [c]).data.toList = -1
        rw [bts_data]; exact index_none h
      rw [Lib.countB_miss _ _ hi, Lib.splitB_zero, partsL_none h]
      show [s] = [bts _]
      rw [bts_of]
    · have hi : Lib.indexB s (bts [c]) = a.length := by
        show Lib.index s.data.toList (bts [c]).data.toList = a.length
        rw [bts_data, hl]; exact index_hit h
      have hsz : s.size = a.length + 1 + r.length := by
        have : s.size = s.data.toList.length := by simp
        rw [this, hl]; simp; omega
      have hr : s.extract (a.length + (bts [c]).size) s.size = bts r := by
        apply ByteArray.ext
        rw [← Array.toList_inj, Lib.extract_to_end, bts_data, hl, bts_size]
        simp
      have ha : s.extract 0 (a.length + 0) = bts a := by
        apply ByteArray.ext
        rw [← Array.toList_inj, Lib.extract_from_zero, bts_data, hl]
        simp
      rw [Lib.countB_hit s (bts [c]) a.length (by rw [bts_size]; simp) hi, Nat.add_comm 1, Lib.splitB_hit _ _ _ _ _ hi, hr, ha, ih (bts r) (by rw [bts_size]; omega), hl, partsL_hit h, bts_data]
      rfl
theorem lib_count (c : UInt8) (s : ByteArray) : Lib.countB s (bts [c]) + 1 = (partsL c s.data.toList).length := by
  have h1 := lib_split c s.size s (Nat.le_refl _)
  have h2 := Lib.splitB_all (bts [c]) (by rw [bts_size]; simp) 0 _ s rfl
  rw [h1, List.length_map] at h2
  exact h2.symm

/-! ### what a listing's text is -/
def makerB (s : ByteArray) : ByteArray := bts (aheadL 59 s.data.toList)
def restB (s : ByteArray) : ByteArray := bts (behindL 59 s.data.toList)
def semiB (s : ByteArray) : Bool := hasL 59 s.data.toList
def tagsB (s : ByteArray) : List ByteArray := if (behindL 59 s.data.toList).isEmpty then [] else (partsL 44 (behindL 59 s.data.toList)).map bts
/-- A tag at a place is right: a name, behind the one ahead of it. -/
def ltB (a b : ByteArray) : Bool := Op.bytesLess a.toList b.toList
def tagOk (l : List ByteArray) (i : Nat) : Bool := match l[i]? with | some a => nameB a && (decide (i = 0) || ltB (l.getD (i - 1) ⟨#[]⟩) a) | none => true
def tagsOk (l : List ByteArray) : Bool := (List.range l.length).all (tagOk l)
def labelB (s : ByteArray) : Bool := semiB s && nameB (makerB s) && decide ((tagsB s).length ≤ 8) && tagsOk (tagsB s)

/-! ### events -/
structure Ev where
  src : ByteArray
  num : Int
  tick : Int
  kind : Int
  person : ByteArray
  item : ByteArray
  value : Int
  text : ByteArray
def evL (e : Ev) : List Value := [.string e.src, .int .i64 e.num, .int .i64 e.tick, .int .i64 e.kind, .string e.person, .string e.item, .int .i64 e.value, .string e.text]
def evR : Rep Ev where
  size := 8
  rep _ _ e xs := xs = evL e
  len h := by subst h; rfl
  one h u hu := by
    subst h
    simp [evL] at hu
    rcases hu with rfl | rfl | rfl | rfl | rfl | rfl | rfl | rfl <;> rfl
  keep _ h := h
  mono _ h := h
theorem evR_flat : evR.flat := fun _ _ _ _ _ _ h => h
section
variable {ok : Nat → Prop} {w w' : World} {A : Option Addr} {n : Nat}
theorem Sl.ev {l : List Ev} (h : Sl evR ok w A n l) {k : Nat} (hk : k < n) : ∃ (b o : Nat) (e : Ev), A = some ⟨b, o, none⟩ ∧ b < w.heap.size ∧ ok b ∧ l[k]? = some e ∧
    w.cell? ⟨b, o + k * 8, none⟩ = some (.string e.src) ∧ w.cell? ⟨b, o + k * 8 + 1, none⟩ = some (.int .i64 e.num) ∧ w.cell? ⟨b, o + k * 8 + 2, none⟩ = some (.int .i64 e.tick) ∧
    w.cell? ⟨b, o + k * 8 + 3, none⟩ = some (.int .i64 e.kind) ∧ w.cell? ⟨b, o + k * 8 + 4, none⟩ = some (.string e.person) ∧ w.cell? ⟨b, o + k * 8 + 5, none⟩ = some (.string e.item) ∧
    w.cell? ⟨b, o + k * 8 + 6, none⟩ = some (.int .i64 e.value) ∧ w.cell? ⟨b, o + k * 8 + 7, none⟩ = some (.string e.text) := by
  obtain ⟨b, o, e, xs, rfl, hb, ho, he, rfl, hc⟩ := h.at_ hk
  exact ⟨b, o, e, rfl, hb, ho, he, hc 0 _ rfl, hc 1 _ rfl, hc 2 _ rfl, hc 3 _ rfl, hc 4 _ rfl, hc 5 _ rfl, hc 6 _ rfl, hc 7 _ rfl⟩
end
/-- An event whose texts are texts, of numbers that are ints. -/
structure EvWf (e : Ev) : Prop where
  src : e.src.size ≤ 140737488355328
  person : e.person.size ≤ 140737488355328
  item : e.item.size ≤ 140737488355328
  text : e.text.size ≤ 140737488355328
def noneB (s : ByteArray) : Bool := s.toList.isEmpty
def headE (e : Ev) : Bool := nameB e.src && decide (1 ≤ e.num) && decide (e.num ≤ 1099511627776) && decide (0 ≤ e.tick) && decide (e.tick ≤ 1099511627776)
def tailE (e : Ev) : Bool :=
  if e.kind = 0 ∨ e.kind = 1 ∨ e.kind = 2 ∨ e.kind = 3 ∨ e.kind = 5 ∨ e.kind = 6 then nameB e.person && nameB e.item && decide (e.value = 0) && noneB e.text
  else if e.kind = 4 then nameB e.person && nameB e.item && decide (1 ≤ e.value) && decide (e.value ≤ 5) && noneB e.text
  else if e.kind = 7 ∨ e.kind = 8 ∨ e.kind = 9 ∨ e.kind = 10 then nameB e.person && noneB e.item && decide (e.value = 0) && nameB e.text
  else if e.kind = 11 then noneB e.person && nameB e.item && decide (0 ≤ e.value) && decide (e.value ≤ 1048576) && labelB e.text
  else if e.kind = 12 then noneB e.person && nameB e.item && decide (0 ≤ e.value) && decide (e.value ≤ 1048576) && noneB e.text
  else if e.kind = 13 then noneB e.person && nameB e.item && decide (e.value = 0) && noneB e.text
  else if e.kind = 14 then nameB e.person && noneB e.item && decide (e.value = 0) && noneB e.text
  else false
def mayE (e : Ev) : Bool := headE e && tailE e
def worthE (e : Ev) : Int := if e.kind = 1 then 1 else if e.kind = 2 then 3 else if e.kind = 3 then 5 else if e.kind = 4 then e.value else 0
end Go.Proofs.YtdkgphambjnbiaaDoor
