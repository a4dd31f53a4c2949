/-
  What is defined here: trials, and what they come to, as plain functions; how a trial lies in memory. No condition.
-/
import Derived.Test.YtdkgphambjnbiaaDoorBase
import Derived.Laws.Closers25b
namespace Go.Proofs.YtdkgphambjnbiaaDoor
open Go Go.RowKit

theorem take_step {α : Type} {l : List α} {k : Nat} {a : α} {p : α → Bool} (h : l[k]? = some a) (hall : (l.take k).all p = true) (hp : p a = true) : (l.take (k + 1)).all p = true := by
  rw [List.take_add_one, h, List.all_append, hall]; simp [hp]
theorem all_full {α : Type} {l : List α} {p : α → Bool} {n : Nat} (h : l.length ≤ n) (hall : (l.take n).all p = true) : l.all p = true := by
  rw [List.take_of_length_le h] at hall; exact hall
theorem all_bad {α : Type} {l : List α} {p : α → Bool} {k : Nat} {a : α} (h : l[k]? = some a) (hp : p a = false) : l.all p = false := by
  rw [Bool.eq_false_iff]; intro ha
  have := List.all_eq_true.1 ha a (List.mem_of_getElem? h)
  rw [hp] at this; cases this
theorem beq_bytes {a b : ByteArray} : (a == b) = true ↔ a = b := by
  constructor
  · intro h
    have e : a.data = b.data := by simpa using (show (a.data == b.data) = true from h)
    exact ByteArray.ext e
  · intro h; subst h; show (a.data == a.data) = true; simp
theorem beq_bytes_false {a b : ByteArray} : (a == b) = false ↔ a ≠ b := by
  rw [Bool.eq_false_iff, ne_eq, not_congr beq_bytes]
theorem beq_bytes_comm (a b : ByteArray) : (a == b) = (b == a) := by
  rw [Bool.eq_iff_iff, beq_bytes, beq_bytes]; exact eq_comm

theorem hash_in (s : Int) (l : List ByteArray) : 0 ≤ hash s l ∧ hash s l < 18446744073709551616 := by
  unfold hash
  generalize l.foldl hword (hstart s) = x
  rw [hend_def]
  generalize IntKind.u64.wrap _ = y
  have := bits_within .xor .u64 y (y / 8589934592)
  have e1 : IntKind.u64.min = 0 := by decide
  have e2 : IntKind.u64.max = 18446744073709551615 := by decide
  rw [e1, e2] at this
  omega

/-- What a hash draws of n. -/
def belowI (h n : Int) : Int := if n < 1 then 0 else h * n / 18446744073709551616
theorem belowI_in (h n : Int) (h0 : 0 ≤ h) (h1 : h < 18446744073709551616) (hn : 1 ≤ n) : 0 ≤ belowI h n ∧ belowI h n < n := by
  unfold belowI
  rw [if_neg (by omega)]
  constructor
  · exact Int.ediv_nonneg (Int.mul_nonneg h0 (by omega)) (by decide)
  · refine Int.ediv_lt_of_lt_mul (by decide) ?_
    rw [Int.mul_comm n]
    exact Int.mul_lt_mul_of_pos_right h1 (by omega)

structure Tr where
  name : ByteArray
  layer : ByteArray
  lo : Int
  hi : Int
  arms : List ByteArray

def trR : Rep Tr where
  size := 5
  rep ok w t xs := ∃ A c, xs = [.string t.name, .string t.layer, .int .i64 t.lo, .int .i64 t.hi, .slice A t.arms.length c] ∧ t.arms.length ≤ c ∧ Sl strR ok w A t.arms.length t.arms
  len h := by obtain ⟨A, c, rfl, _⟩ := h; rfl
  one h u hu := by
    obtain ⟨A, c, rfl, _⟩ := h
    simp at hu
    rcases hu with rfl | rfl | rfl | rfl | rfl <;> rfl
  keep hk h := by obtain ⟨A, c, rfl, hc, hs⟩ := h; exact ⟨A, c, rfl, hc, hs.keep hk⟩
  mono hm h := by obtain ⟨A, c, rfl, hc, hs⟩ := h; exact ⟨A, c, rfl, hc, hs.mono hm⟩

section
variable {ok : Nat → Prop} {w w' : World} {A : Option Addr} {n : Nat}
theorem Sl.tr {l : List Tr} (h : Sl trR ok w A n l) {k : Nat} (hk : k < n) : ∃ (b o : Nat) (t : Tr) (A' : Option Addr) (c' : Nat), A = some ⟨b, o, none⟩ ∧ b < w.heap.size ∧ ok b ∧ l[k]? = some t ∧ t.arms.length ≤ c' ∧ Sl strR ok w A' t.arms.length t.arms ∧
    w.cell? ⟨b, o + k * 5, none⟩ = some (.string t.name) ∧ w.cell? ⟨b, o + k * 5 + 1, none⟩ = some (.string t.layer) ∧ w.cell? ⟨b, o + k * 5 + 2, none⟩ = some (.int .i64 t.lo) ∧
    w.cell? ⟨b, o + k * 5 + 3, none⟩ = some (.int .i64 t.hi) ∧ w.cell? ⟨b, o + k * 5 + 4, none⟩ = some (.slice A' t.arms.length c') := by
  obtain ⟨b, o, t, xs, rfl, hb, ho, he, ⟨A', c', rfl, hc', hs⟩, hc⟩ := h.at_ hk
  exact ⟨b, o, t, A', c', rfl, hb, ho, he, hc', hs, hc 0 _ rfl, hc 1 _ rfl, hc 2 _ rfl, hc 3 _ rfl, hc 4 _ rfl⟩
end

/-- An arm at a place is right. -/
def armOk (l : List ByteArray) (i : Nat) : Bool := match l[i]? with | some a => nameB a && !((l.take i).any (fun x => a == x)) | none => true
def armsOk (l : List ByteArray) : Bool := (List.range l.length).all (armOk l)
def mayT (t : Tr) : Bool :=
  nameB t.name && nameB t.layer && decide (0 ≤ t.lo) && decide (t.lo < t.hi) && decide (t.hi ≤ 1000) && decide (1 ≤ t.arms.length) && decide (t.arms.length ≤ 16) && armsOk t.arms
theorem mayT_no1 {t : Tr} (h : nameB t.name = false) : mayT t = false := by simp [mayT, h]
theorem mayT_no2 {t : Tr} (h : nameB t.layer = false) : mayT t = false := by simp [mayT, h]
theorem mayT_no3 {t : Tr} (h : t.lo < 0 ∨ t.hi ≤ t.lo ∨ 1000 < t.hi) : mayT t = false := by
  rw [Bool.eq_false_iff]; intro hm
  simp only [mayT, Bool.and_eq_true, decide_eq_true_eq] at hm
  omega
theorem mayT_no4 {t : Tr} (h : t.arms.length < 1 ∨ 16 < t.arms.length) : mayT t = false := by
  rw [Bool.eq_false_iff]; intro hm
  simp only [mayT, Bool.and_eq_true, decide_eq_true_eq] at hm
  omega
theorem mayT_mid {t : Tr} (h1 : nameB t.name = true) (h2 : nameB t.layer = true) (h3 : 0 ≤ t.lo) (h4 : t.lo < t.hi) (h5 : t.hi ≤ 1000) (h6 : 1 ≤ t.arms.length) (h7 : t.arms.length ≤ 16) : mayT t = armsOk t.arms := by
  simp only [mayT, h1, h2]; simp; intro _; omega
structure MayParts (t : Tr) : Prop where
  name : nameB t.name = true
  layer : nameB t.layer = true
  lo : 0 ≤ t.lo
  lt : t.lo < t.hi
  hi : t.hi ≤ 1000
  one : 1 ≤ t.arms.length
  few : t.arms.length ≤ 16
  arms : armsOk t.arms = true
theorem mayT_parts {t : Tr} (h : mayT t = true) : MayParts t := by
  simp only [mayT, Bool.and_eq_true, decide_eq_true_eq] at h
  obtain ⟨⟨⟨⟨⟨⟨⟨h1, h2⟩, h3⟩, h4⟩, h5⟩, h6⟩, h7⟩, h8⟩ := h
  exact ⟨h1, h2, h3, h4, h5, h6, h7, h8⟩

def armsAt (l : List ByteArray) (k : Nat) : Prop := ∀ i, i < k → armOk l i = true
theorem armsAt_step {l : List ByteArray} {k : Nat} (h : armsAt l k) (hk : armOk l k = true) : armsAt l (k + 1) := fun i hi => by
  rcases Nat.lt_or_ge i k with h' | h'
  · exact h i h'
  · obtain rfl : i = k := by omega
    exact hk
theorem armsOk_yes {l : List ByteArray} {k : Nat} (h : armsAt l k) (hk : l.length ≤ k) : armsOk l = true := by
  unfold armsOk; rw [List.all_eq_true]; intro i hi; exact h i (by have := List.mem_range.1 hi; omega)
theorem armsOk_no {l : List ByteArray} {k : Nat} (hk : k < l.length) (h : armOk l k = false) : armsOk l = false := by
  rw [Bool.eq_false_iff]; intro ha
  have := List.all_eq_true.1 ha k (List.mem_range.2 hk)
  rw [h] at this; cases this
theorem armOk_name {l : List ByteArray} {k : Nat} {a : ByteArray} (h : l[k]? = some a) (hn : nameB a = false) : armOk l k = false := by simp [armOk, h, hn]
theorem armOk_in {l : List ByteArray} {k : Nat} {a : ByteArray} (h : l[k]? = some a) (hn : (l.take k).any (fun x => a == x) = true) : armOk l k = false := by simp only [armOk, h, hn]; simp
theorem armOk_yes {l : List ByteArray} {k : Nat} {a : ByteArray} (h : l[k]? = some a) (hn : nameB a = true) (hc : (l.take k).any (fun x => a == x) = false) : armOk l k = true := by simp only [armOk, h, hn, hc]; rfl

def bucketT (layer person : ByteArray) : Int := belowI (hash 1 [layer, person]) 1000
/-- The place of a person's arm. -/
def armNo (t : Tr) (person : ByteArray) : Int := belowI (hash 2 [t.name, person]) t.arms.length
def inT (t : Tr) (person : ByteArray) : Bool := mayT t && !decide (bucketT t.layer person < t.lo) && !decide (t.hi ≤ bucketT t.layer person)
def armT (t : Tr) (person : ByteArray) : ByteArray := if inT t person then t.arms.getD (armNo t person).toNat ⟨#[]⟩ else ⟨#[]⟩
theorem bucketT_in (layer person : ByteArray) : 0 ≤ bucketT layer person ∧ bucketT layer person < 1000 := belowI_in _ _ (hash_in _ _).1 (hash_in _ _).2 (by decide)
theorem armNo_in (t : Tr) (person : ByteArray) (h : 1 ≤ t.arms.length) : 0 ≤ armNo t person ∧ armNo t person < t.arms.length := belowI_in _ _ (hash_in _ _).1 (hash_in _ _).2 (by omega)
theorem armT_at {t : Tr} {person : ByteArray} (h : inT t person = true) : t.arms[(armNo t person).toNat]? = some (armT t person) := by
  have hm : mayT t = true := by simp only [inT, Bool.and_eq_true] at h; exact h.1.1
  have hp := mayT_parts hm
  have := armNo_in t person hp.one
  unfold armT
  rw [if_pos h, List.getD_eq_getElem?_getD]
  have hl : (armNo t person).toNat < t.arms.length := by omega
  rw [List.getElem?_eq_getElem hl]; rfl
end Go.Proofs.YtdkgphambjnbiaaDoor
