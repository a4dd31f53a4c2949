/-
  What is defined here: the plain functions that the program computes (names, hashes, entries of an audit), and how an entry lies in memory. No condition.
-/
import Derived.Test.YtmhkgfoimkonoaaDoorBase
namespace Go.Proofs.YtmhkgfoimkonoaaDoor
open Go Go.RowKit

def okByte (c : UInt8) : Bool := (97 ≤ c && c ≤ 122) || (48 ≤ c && c ≤ 57) || c == 45
def nameB (s : ByteArray) : Bool := decide (1 ≤ s.size) && decide (s.size ≤ 24) && s.data.toList.all okByte
theorem okByte_iff (c : UInt8) : okByte c = true ↔ (97 ≤ (c.toNat : Int) ∧ (c.toNat : Int) ≤ 122) ∨ (48 ≤ (c.toNat : Int) ∧ (c.toNat : Int) ≤ 57) ∨ (c.toNat : Int) = 45 := by
  have e : (c == 45) = decide ((c.toNat : Int) = 45) := by
    rw [Bool.eq_iff_iff]; simp only [beq_iff_eq, decide_eq_true_eq, ← UInt8.toNat_inj]; simp; omega
  simp only [okByte, e, UInt8.le_iff_toNat_le, Bool.or_eq_true, Bool.and_eq_true, decide_eq_true_eq]
  simp; omega
theorem take_snoc (s : ByteArray) (k : Nat) (h : k < s.size) : s.data.toList.take (k + 1) = s.data.toList.take k ++ [s[k]] := by
  rw [List.take_succ_eq_append_getElem (by simpa using h)]; rfl
theorem take_all (s : ByteArray) (k : Nat) (h : s.size ≤ k) : s.data.toList.take k = s.data.toList := List.take_of_length_le (by simpa using h)
theorem nameB_long {s : ByteArray} (h : 24 < s.size) : nameB s = false := by unfold nameB; simp; omega
theorem nameB_short {s : ByteArray} (h : s.size < 1) : nameB s = false := by unfold nameB; simp; omega
theorem nameB_mid {s : ByteArray} (h1 : ¬ s.size < 1) (h2 : ¬ 24 < s.size) : nameB s = s.data.toList.all okByte := by
  unfold nameB
  have e1 : decide (1 ≤ s.size) = true := by simp; omega
  have e2 : decide (s.size ≤ 24) = true := by simp; omega
  rw [e1, e2]; simp
theorem all_not {s : ByteArray} {k : Nat} (h : k < s.size) (hk : ¬ okByte s[k] = true) : s.data.toList.all okByte = false := by
  rw [Bool.eq_false_iff]
  intro ha
  exact hk (List.all_eq_true.1 ha s[k] (by show s.data[k] ∈ _; simp))
theorem all_step {s : ByteArray} {k : Nat} (h : k < s.size) (ha : (s.data.toList.take k).all okByte = true) (hk : okByte s[k] = true) : (s.data.toList.take (k + 1)).all okByte = true := by
  rw [take_snoc s k h, List.all_append, ha]; simp [hk]

def hstep (h : Int) (b : Int) : Int := IntKind.u64.wrap (bits .xor .u64 h b * 1099511628211)
def hbyte (h : Int) (c : UInt8) : Int := hstep h (IntKind.u64.wrap (c.toNat : Int))
def hword (h : Int) (s : ByteArray) : Int := hstep (s.data.toList.foldl hbyte h) 256
def hstart (seed : Int) : Int := IntKind.u64.wrap (seed + 11400714819323198485)
def hend (h : Int) : Int :=
  let h := IntKind.u64.wrap (bits .xor .u64 h (h / 2147483648) * 9202087104158670213)
  let h := IntKind.u64.wrap (bits .xor .u64 h (h / 134217728) * 9356908073163150413)
  bits .xor .u64 h (h / 8589934592)
def hash (seed : Int) (l : List ByteArray) : Int := hend (l.foldl hword (hstart seed))

theorem hstep_def (h b : Int) : hstep h b = IntKind.u64.wrap (bits .xor .u64 h b * 1099511628211) := by unfold hstep; exact rfl
theorem hword_def (h : Int) (s : ByteArray) : hword h s = hstep (s.data.toList.foldl hbyte h) 256 := by unfold hword; exact rfl
theorem hend_def (h : Int) : hend h = bits .xor .u64 (IntKind.u64.wrap (bits .xor .u64 (IntKind.u64.wrap (bits .xor .u64 h (h / 2147483648) * 9202087104158670213)) ((IntKind.u64.wrap (bits .xor .u64 h (h / 2147483648) * 9202087104158670213)) / 134217728) * 9356908073163150413)) ((IntKind.u64.wrap (bits .xor .u64 (IntKind.u64.wrap (bits .xor .u64 h (h / 2147483648) * 9202087104158670213)) ((IntKind.u64.wrap (bits .xor .u64 h (h / 2147483648) * 9202087104158670213)) / 134217728) * 9356908073163150413)) / 8589934592) := by unfold hend; exact rfl
theorem hash_def (seed : Int) (l : List ByteArray) : hash seed l = hend (l.foldl hword (hstart seed)) := by unfold hash; exact rfl

/-- An entry of an audit. -/
structure Ent where
  off : Int
  now : Int
  person : ByteArray
  items : List ByteArray
  sum : Int

def entR : Rep Ent where
  size := 5
  rep ok w e xs := ∃ A c, xs = [.int .i64 e.off, .int .i64 e.now, .string e.person, .slice A e.items.length c, .int .u64 e.sum] ∧ e.items.length ≤ c ∧ Sl strR ok w A e.items.length e.items
  len h := by obtain ⟨A, c, rfl, _⟩ := h; rfl
  one h u hu := by
    obtain ⟨A, c, rfl, _⟩ := h
    simp at hu
    rcases hu with rfl | rfl | rfl | rfl | rfl <;> rfl
  keep hk h := by obtain ⟨A, c, rfl, hc, hs⟩ := h; exact ⟨A, c, rfl, hc, hs.keep hk⟩
  mono hm h := by obtain ⟨A, c, rfl, hc, hs⟩ := h; exact ⟨A, c, rfl, hc, hs.mono hm⟩

section
variable {ok : Nat → Prop} {w w' : World} {A : Option Addr} {n : Nat}
theorem Sl.str {l : List ByteArray} (h : Sl strR ok w A n l) {k : Nat} (hk : k < n) : ∃ (b o : Nat) (s : ByteArray), A = some ⟨b, o, none⟩ ∧ b < w.heap.size ∧ ok b ∧ l[k]? = some s ∧ w.cell? ⟨b, o + k, none⟩ = some (.string s) := by
  obtain ⟨b, o, s, xs, rfl, hb, ho, hs, rfl, hc⟩ := h.at_ hk
  exact ⟨b, o, s, rfl, hb, ho, hs, by simpa [strR] using hc 0 _ rfl⟩
theorem Sl.ent {l : List Ent} (h : Sl entR ok w A n l) {k : Nat} (hk : k < n) : ∃ (b o : Nat) (e : Ent) (A' : Option Addr) (c' : Nat), A = some ⟨b, o, none⟩ ∧ b < w.heap.size ∧ ok b ∧ l[k]? = some e ∧ e.items.length ≤ c' ∧ Sl strR ok w A' e.items.length e.items ∧
    w.cell? ⟨b, o + k * 5, none⟩ = some (.int .i64 e.off) ∧ w.cell? ⟨b, o + k * 5 + 1, none⟩ = some (.int .i64 e.now) ∧ w.cell? ⟨b, o + k * 5 + 2, none⟩ = some (.string e.person) ∧
    w.cell? ⟨b, o + k * 5 + 3, none⟩ = some (.slice A' e.items.length c') ∧ w.cell? ⟨b, o + k * 5 + 4, none⟩ = some (.int .u64 e.sum) := by
  obtain ⟨b, o, e, xs, rfl, hb, ho, he, ⟨A', c', rfl, hc', hs⟩, hc⟩ := h.at_ hk
  exact ⟨b, o, e, A', c', rfl, hb, ho, he, hc', hs, hc 0 _ rfl, hc 1 _ rfl, hc 2 _ rfl, hc 3 _ rfl, hc 4 _ rfl⟩
end
end Go.Proofs.YtmhkgfoimkonoaaDoor
