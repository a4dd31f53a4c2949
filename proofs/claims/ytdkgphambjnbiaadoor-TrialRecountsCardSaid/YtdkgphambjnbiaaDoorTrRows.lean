/-
  What is defined here: rows of a report, and how they lie in memory. No condition.
-/
import Derived.Test.YtdkgphambjnbiaaDoorTrExp3
namespace Go.Proofs.YtdkgphambjnbiaaDoor
open Go Go.RowKit

structure Rw where
  arm : ByteArray
  people : Int
  bought : Int
  worth : Int
def rwL (r : Rw) : List Value := [.string r.arm, .int .i64 r.people, .int .i64 r.bought, .int .i64 r.worth]
def rowsC (l : List Rw) : Array Value := ((l.map rwL).flatten).toArray
theorem rwL_len (l : List Rw) : ∀ x ∈ l.map rwL, x.length = 4 := fun x hx => by obtain ⟨r, _, rfl⟩ := List.mem_map.1 hx; rfl
theorem flat_len (l : List Rw) : ((l.map rwL).flatten).length = l.length * 4 := by
  induction l with
  | nil => rfl
  | cons r l ih => simp only [List.map_cons, List.flatten_cons, List.length_append, ih, List.length_cons]; show 4 + _ = _; omega
theorem rowsC_size (l : List Rw) : (rowsC l).size = l.length * 4 := by simp only [rowsC, List.size_toArray]; exact flat_len l
theorem rowsC_at {l : List Rw} {i : Nat} {r : Rw} (h : l[i]? = some r) (j : Nat) {u : Value} (hu : (rwL r)[j]? = some u) : (rowsC l)[i * 4 + j]? = some u := by
  have := flatten_at (l.map rwL) 4 i (rwL r) (rwL_len l) (by rw [List.getElem?_map, h]; rfl) j u hu
  simpa [rowsC] using this
theorem flat_set (l : List Rw) : ∀ (i : Nat) (r r' : Rw) (j : Nat) (u : Value), l[i]? = some r → (rwL r).set j u = rwL r' → j < 4 → ((l.map rwL).flatten).set (i * 4 + j) u = ((l.set i r').map rwL).flatten := by
  induction l with
  | nil => intro i r r' j u h; simp at h
  | cons a l ih =>
    intro i r r' j u h hs hj
    cases i with
    | zero =>
      simp at h; subst h
      simp only [List.map_cons, List.flatten_cons, List.set_cons_zero, Nat.zero_mul, Nat.zero_add]
      rw [List.set_append_left _ _ (by show j < 4; exact hj), hs]
    | succ i =>
      have h' : l[i]? = some r := by simpa using h
      have := ih i r r' j u h' hs hj
      simp only [List.map_cons, List.flatten_cons, List.set_cons_succ]
      rw [List.set_append_right _ _ (by show 4 ≤ _; omega)]
      congr 1
      have e : (i + 1) * 4 + j - (rwL a).length = i * 4 + j := by show (i + 1) * 4 + j - 4 = _; omega
      rw [e, this]
theorem rowsC_set {l : List Rw} {i : Nat} {r r' : Rw} {j : Nat} {u : Value} (h : l[i]? = some r) (hs : (rwL r).set j u = rwL r') (hj : j < 4) : (rowsC l).setIfInBounds (i * 4 + j) u = rowsC (l.set i r') := by
  unfold rowsC
  rw [List.setIfInBounds_toArray, flat_set l i r r' j u h hs hj]

/-- The rows when k arms are named. -/
def rows0 (arms : List ByteArray) (k : Nat) : List Rw := (arms.take k).map (fun a => ⟨a, 0, 0, 0⟩) ++ List.replicate (arms.length - k) ⟨⟨#[]⟩, 0, 0, 0⟩
theorem rows0_len (arms : List ByteArray) (k : Nat) (h : k ≤ arms.length) : (rows0 arms k).length = arms.length := by simp [rows0]; omega
theorem rows0_at {arms : List ByteArray} {k : Nat} (h : k < arms.length) : (rows0 arms k)[k]? = some ⟨⟨#[]⟩, 0, 0, 0⟩ := by
  unfold rows0
  have e : k - ((arms.take k).map (fun a => (⟨a, 0, 0, 0⟩ : Rw))).length = 0 := by simp; omega
  rw [List.getElem?_append_right (by simp; omega), e, List.getElem?_replicate, if_pos (by omega)]
theorem rows0_step {arms : List ByteArray} {k : Nat} {a : ByteArray} (h : arms[k]? = some a) : (rows0 arms k).set k ⟨a, 0, 0, 0⟩ = rows0 arms (k + 1) := by
  have hk : k < arms.length := (List.getElem?_eq_some_iff.1 h).1
  unfold rows0
  have e : arms.length - k = (arms.length - (k + 1)) + 1 := by omega
  rw [e, List.replicate_succ, List.take_add_one, h]
  have hl : ((arms.take k).map (fun a => (⟨a, 0, 0, 0⟩ : Rw))).length = k := by simp; omega
  rw [List.set_append_right _ _ (by omega), hl, Nat.sub_self]
  simp
/-- The rows when the people ds are counted. -/
def rowsP (t : Tr) (ds : List ByteArray) : List Rw := t.arms.mapIdx (fun j a => ⟨a, (ds.countP (fun d => armNo t d == (j : Int)) : Nat), 0, 0⟩)
theorem rowsP_nil (t : Tr) : rowsP t [] = rows0 t.arms t.arms.length := by
  unfold rowsP rows0
  simp
  apply List.ext_getElem? ; intro i
  simp
theorem rowsP_at {t : Tr} {ds : List ByteArray} {j : Nat} {a : ByteArray} (h : t.arms[j]? = some a) : (rowsP t ds)[j]? = some ⟨a, (ds.countP (fun d => armNo t d == (j : Int)) : Nat), 0, 0⟩ := by
  unfold rowsP; rw [List.getElem?_mapIdx, h]; rfl
theorem rowsP_step {t : Tr} {ds : List ByteArray} {p : ByteArray} {j : Nat} {a : ByteArray} (hj : armNo t p = j) (h : t.arms[j]? = some a) : (rowsP t ds).set j ⟨a, (ds.countP (fun d => armNo t d == (j : Int)) : Nat) + 1, 0, 0⟩ = rowsP t (ds ++ [p]) := by
  have hjl : j < t.arms.length := (List.getElem?_eq_some_iff.1 h).1
  apply List.ext_getElem?
  intro i
  unfold rowsP
  rw [List.getElem?_set, List.getElem?_mapIdx, List.getElem?_mapIdx]
  by_cases hij : j = i
  · subst hij
    rw [if_pos rfl, if_pos (by simpa using hjl), h]
    simp [List.countP_append, hj]
  · rw [if_neg hij]
    cases hi : t.arms[i]? with
    | none => rfl
    | some b =>
      have : ¬ ((j : Int) = (i : Int)) := by omega
      simp [List.countP_append, hj, this]
/-- The order plays no part. -/
theorem rowsP_perm {t : Tr} {ds es : List ByteArray} (h : ds.Perm es) : rowsP t ds = rowsP t es := by
  unfold rowsP
  congr 1
  funext j a
  rw [h.countP_eq]
theorem perm_of {ds es : List ByteArray} (h1 : ds.Nodup) (h2 : es.Nodup) (h3 : ∀ d ∈ ds, d ∈ es) (h4 : ∀ d ∈ es, d ∈ ds) : ds.Perm es :=
  (List.perm_ext_iff_of_nodup h1 h2).2 fun a => ⟨h3 a, h4 a⟩
end Go.Proofs.YtdkgphambjnbiaaDoor
