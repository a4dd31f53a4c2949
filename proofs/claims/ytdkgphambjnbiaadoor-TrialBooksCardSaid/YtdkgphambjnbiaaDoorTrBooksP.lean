/-
  What is proved here: of trials that may stand in one book a person's arms, by the names of the trials. No program is in sight. No condition.
-/
import Derived.Test.YtdkgphambjnbiaaDoorTrRNew
namespace Go.Proofs.YtdkgphambjnbiaaDoor
open Go Go.RowKit Go.Proofs

theorem names_nodup {l : List Tr} (h : clashT l = false) : (l.map (·.name)).Nodup := by
  rw [List.nodup_iff_pairwise_ne, List.pairwise_iff_getElem]
  intro i j hi hj hij e
  simp only [List.getElem_map, List.length_map] at hi hj e
  have : clashT l = true := clashT_yes (List.getElem?_eq_getElem hj) (List.any_eq_true.2 ⟨l[i], by rw [List.mem_take_iff_getElem]; exact ⟨i, by omega, rfl⟩, by unfold againstT; rw [beq_bytes.2 e]; rfl⟩)
  rw [h] at this; cases this
theorem armsM_eq (l : List Tr) (person : ByteArray) (h : (l.map (·.name)).Nodup) : ∀ k, k ≤ l.length → armsM (l.take k) person = ((l.take k).filter (fun t => inT t person)).map (fun t => (t.name, armT t person)) := by
  intro k
  induction k with
  | zero => intro _; simp [armsM]
  | succ k ih =>
    intro hk
    have hkl : k < l.length := by omega
    have hat := List.getElem?_eq_getElem hkl
    have hi := ih (by omega)
    have e : l.take (k + 1) = l.take k ++ [l[k]] := by rw [List.take_add_one, hat]; rfl
    cases hin : inT l[k] person
    · have e2 : ([l[k]] : List Tr).filter (fun t => inT t person) = [] := by simp [hin]
      rw [armsM_out hat hin, hi, e, List.filter_append, e2, List.append_nil]
    · rw [armsM_in hat hin, hi, putM_none]
      · have e2 : ([l[k]] : List Tr).filter (fun t => inT t person) = [l[k]] := by simp [hin]
        rw [e, List.filter_append, e2, List.map_append]
        rfl
      · rw [getM_none_iff]
        intro p hp e
        obtain ⟨t, ht, rfl⟩ := List.mem_map.1 hp
        have htm := (List.mem_filter.1 ht).1
        obtain ⟨i, hi2, hie⟩ := List.mem_take_iff_getElem.1 htm
        have := List.pairwise_iff_getElem.1 h i k (by simp; omega) (by simpa using hkl) (by omega)
        simp only [List.getElem_map] at this
        exact this (by rw [hie]; exact e)
theorem armsM_all (l : List Tr) (person : ByteArray) (h : clashT l = false) : armsM l person = (l.filter (fun t => inT t person)).map (fun t => (t.name, armT t person)) := by
  have := armsM_eq l person (names_nodup h) l.length (Nat.le_refl _)
  rwa [List.take_length] at this
theorem armsM_get {l : List Tr} {person : ByteArray} (h : clashT l = false) {k : Nat} {t : Tr} (ht : l[k]? = some t) : getM (fun a b : ByteArray => a == b) (armsM l person) t.name = if inT t person then some (armT t person) else none := by
  have hnd := names_nodup h
  have hmem := List.mem_of_getElem? ht
  rw [armsM_all l person h]
  cases hin : inT t person
  · rw [if_neg (by decide), getM_none_iff]
    intro p hp e
    obtain ⟨u, hu, rfl⟩ := List.mem_map.1 hp
    obtain ⟨hu1, hu2⟩ := List.mem_filter.1 hu
    obtain ⟨i, hi, hie⟩ := List.mem_iff_getElem.1 hu1
    obtain ⟨hk, hke⟩ := List.getElem?_eq_some_iff.1 ht
    have hik : i = k := by
      rcases Nat.lt_trichotomy i k with h' | h' | h'
      · have := List.pairwise_iff_getElem.1 hnd i k (by simpa using hi) (by simpa using hk) h'
        simp only [List.getElem_map, hie, hke] at this
        exact absurd e this
      · exact h'
      · have := List.pairwise_iff_getElem.1 hnd k i (by simpa using hk) (by simpa using hi) h'
        simp only [List.getElem_map, hie, hke] at this
        exact absurd e.symm this
    subst hik
    rw [hie] at hke
    subst hke
    rw [hin] at hu2; cases hu2
  · rw [if_pos rfl]
    refine getM_of_mem ?_ (List.mem_map.2 ⟨t, List.mem_filter.2 ⟨hmem, hin⟩, rfl⟩)
    rw [List.map_map]
    exact hnd.sublist (List.Sublist.map _ List.filter_sublist)
theorem armsM_len {l : List Tr} {person : ByteArray} (h : clashT l = false) : (armsM l person).length = l.countP (fun t => inT t person) := by
  rw [armsM_all l person h, List.length_map, List.countP_eq_length_filter]
end Go.Proofs.YtdkgphambjnbiaaDoor
