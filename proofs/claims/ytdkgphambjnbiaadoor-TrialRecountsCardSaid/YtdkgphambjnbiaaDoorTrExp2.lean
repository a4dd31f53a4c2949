/-
  What is proved here: who is exposed is noted in a book, at the first tick. Conditions: at most a thousand trials, no text is longer than a text can be.
-/
import Derived.Test.YtdkgphambjnbiaaDoorTrExp
namespace Go.Proofs.YtdkgphambjnbiaaDoor
open Go Go.RowKit Go.Proofs
attribute [local go_sem ↓] Go.wp_at_zero Go.wp_at_succ

section
variable {β : Type} {l : List (ByteArray × β)} {k n : ByteArray} {v : β}
theorem getM_none_iff : getM (fun a b : ByteArray => a == b) l k = none ↔ ∀ p ∈ l, p.1 ≠ k := by
  unfold getM
  rw [Option.map_eq_none_iff, List.find?_eq_none]
  constructor
  · intro h p hp e
    exact h p hp (beq_bytes.2 e.symm)
  · intro h p hp e
    exact h p hp (beq_bytes.1 e).symm
theorem getM_mem (h : getM (fun a b : ByteArray => a == b) l k = some v) : (k, v) ∈ l := by
  unfold getM at h
  rw [Option.map_eq_some_iff] at h
  obtain ⟨p, hp, rfl⟩ := h
  have h1 := List.mem_of_find?_eq_some hp
  have h2 : (k == p.1) = true := List.find?_some (p := fun q : ByteArray × β => k == q.1) hp
  rw [beq_bytes.1 h2]; exact h1
theorem getM_of_mem (hnd : (l.map (·.1)).Nodup) (h : (k, v) ∈ l) : getM (fun a b : ByteArray => a == b) l k = some v := by
  cases hg : getM (fun a b : ByteArray => a == b) l k with
  | none => exact absurd rfl (getM_none_iff.1 hg _ h)
  | some u =>
    have h2 := getM_mem hg
    clear hg
    induction l with
    | nil => cases h
    | cons p r ih =>
      simp only [List.map_cons, List.nodup_cons] at hnd
      rcases List.mem_cons.1 h with e | e
      · rcases List.mem_cons.1 h2 with e2 | e2
        · rw [← e] at e2; injection e2 with _ e3; rw [e3]
        · exact absurd (List.mem_map_of_mem (f := (·.1)) e2) (by rw [← e] at hnd; exact hnd.1)
      · rcases List.mem_cons.1 h2 with e2 | e2
        · exact absurd (List.mem_map_of_mem (f := (·.1)) e) (by rw [← e2] at hnd; exact hnd.1)
        · exact ih hnd.2 e e2
theorem putM_none (h : getM (fun a b : ByteArray => a == b) l k = none) : putM (fun a b : ByteArray => a == b) l k v = l ++ [(k, v)] := by
  unfold putM
  have : l.any (fun p => k == p.1) = false := by
    rw [Bool.eq_false_iff]; intro ha
    obtain ⟨p, hp, he⟩ := List.any_eq_true.1 ha
    exact getM_none_iff.1 h p hp (beq_bytes.1 he).symm
  rw [if_neg (by rw [this]; decide)]
theorem putM_keys (u : β) (h : getM (fun a b : ByteArray => a == b) l k = some u) : (putM (fun a b : ByteArray => a == b) l k v).map (·.1) = l.map (·.1) := by
  unfold putM
  have : l.any (fun p => k == p.1) = true := List.any_eq_true.2 ⟨_, getM_mem h, beq_bytes.2 rfl⟩
  rw [if_pos this, List.map_map]
  apply List.map_congr_left
  intro p _
  simp only [Function.comp]
  split <;> rfl
end

def ExpPost (w : World) (b m lim : Nat) (v : Value) (outer : List (ByteArray × Nat)) (ts : List Tr) (xs : ByteArray → List (ByteArray × Int)) (name person : ByteArray) (a : Int) (r : Ending) (w' : World) : Prop :=
  r = .returned (.bool true) ∧ ∃ outer', BookX w' b m lim v outer' ts (setX xs name (putMin (xs name) person a)) ∧ Keeps (fun k => k ≠ m ∧ ∀ p ∈ outer, p.2 ≠ k) w w' ∧ ∀ p ∈ outer', p ∈ outer ∨ w.heap.size ≤ p.2

theorem setX_same (xs : ByteArray → List (ByteArray × Int)) (name : ByteArray) (l : List (ByteArray × Int)) : setX xs name l name = l := by unfold setX; rw [if_pos (beq_bytes.2 rfl)]
theorem setX_other (xs : ByteArray → List (ByteArray × Int)) {name n : ByteArray} (l : List (ByteArray × Int)) (h : n ≠ name) : setX xs name l n = xs n := by unfold setX; rw [if_neg (fun e => h (beq_bytes.1 e))]
theorem setX_id (xs : ByteArray → List (ByteArray × Int)) (name : ByteArray) : setX xs name (xs name) = xs := by
  funext n
  unfold setX
  split
  · rename_i h; rw [beq_bytes.1 h]
  · rfl

/-- What became of a book whose map of a name was there. -/
theorem book_inner {w w' : World} {b m lim mi : Nat} {v : Value} {outer : List (ByteArray × Nat)} {ts : List Tr} {xs : ByteArray → List (ByteArray × Int)} {name : ByteArray} {l : List (ByteArray × Int)} (h : BookX w b m lim v outer ts xs) (hg : getM (fun a b : ByteArray => a == b) outer name = some mi)
    (hk : Keeps (fun i => i ≠ mi) w w') (hm : Mp (strK (P := Tryd.prog) (kt := 9) Tryd.underlying9) intV w' mi l) : BookX w' b m lim v outer ts (setX xs name l) := by
  have hin := getM_mem hg
  have hfar := h.far _ hin
  have hmb := h.mb
  have hbl := h.bl
  simp only at hfar
  refine ⟨hk.blk h.blk (by omega), h.own.keep (hk.mono (fun i _ hi => by have := hi.1.2; omega)) (fun g hgv => hk.block g (h.own.lt g hgv).2 (by have := h.row g hgv; omega)), h.row, h.mb, h.bl, Nat.le_trans h.lw hk.size, h.mp.keep hk (by omega), h.far, h.nd, fun p hp => ?_, fun n hn => ?_⟩
  · by_cases hpn : p.1 = name
    · have : getM (fun a b : ByteArray => a == b) outer name = some p.2 := getM_of_mem h.mp.keys (by rw [← hpn]; exact hp)
      rw [hg] at this
      obtain rfl := Option.some.inj this
      rw [hpn, setX_same]; exact hm
    · rw [setX_other _ _ hpn]
      refine (h.inn p hp).keep hk (fun e => hpn ?_)
      have hnd := h.nd
      obtain ⟨i, hi, hie⟩ := List.mem_iff_getElem.1 hp
      obtain ⟨j, hj, hje⟩ := List.mem_iff_getElem.1 hin
      have hpw := List.pairwise_iff_getElem.1 hnd
      rcases Nat.lt_trichotomy i j with h' | h' | h'
      · have := hpw i j (by simpa using hi) (by simpa using hj) h'
        simp only [List.getElem_map, hie, hje] at this
        exact absurd e this
      · subst h'; rw [← hie, hje]
      · have := hpw j i (by simpa using hj) (by simpa using hi) h'
        simp only [List.getElem_map, hie, hje] at this
        exact absurd e.symm this
  · have hne : n ≠ name := fun e => by
      subst e
      have := hg.symm.trans (show getM (fun a b : ByteArray => a == b) outer n = none from hn)
      cases this
    rw [setX_other _ _ hne]; exact h.none n hn

/-- What became of a book whose map of a name was new. -/
theorem book_new {w w1 w' : World} {b m lim : Nat} {v : Value} {outer : List (ByteArray × Nat)} {ts : List Tr} {xs : ByteArray → List (ByteArray × Int)} {name : ByteArray} {l : List (ByteArray × Int)} (h : BookX w b m lim v outer ts xs) (hg : getM (fun a b : ByteArray => a == b) outer name = none)
    (hk : Keeps (fun i => i ≠ m) w w1) (hmp : Mp (strK (P := Tryd.prog) (kt := 9) Tryd.underlying9) mapV w1 m (putM (fun a b : ByteArray => a == b) outer name w.heap.size)) (hk2 : Keeps (fun i => i ≠ w.heap.size) w1 w') (hm : Mp (strK (P := Tryd.prog) (kt := 9) Tryd.underlying9) intV w' w.heap.size l) : BookX w' b m lim v (outer ++ [(name, w.heap.size)]) ts (setX xs name l) := by
  have hmb := h.mb
  have hbl := h.bl
  have hlw := h.lw
  have hkk : Keeps (fun i => i ≠ m ∧ i < w.heap.size) w w' := Keeps.then_ (hk.mono (fun _ _ h => h.1)) hk2 (fun i _ hi => by have := hi.2; omega)
  rw [putM_none hg] at hmp
  refine ⟨hkk.blk h.blk ⟨by omega, by omega⟩, h.own.keep (hkk.mono (fun i hi hi2 => ⟨by have := hi2.1.1; omega, hi⟩)) (fun g hgv => hkk.block g (h.own.lt g hgv).2 ⟨by have := (h.own.lt g hgv).1; omega, (h.own.lt g hgv).2⟩), h.row, h.mb, h.bl, Nat.le_trans h.lw hkk.size, hmp.keep hk2 (by omega), fun p hp => ?_, ?_, fun p hp => ?_, fun n hn => ?_⟩
  · rcases List.mem_append.1 hp with hp | hp
    · exact h.far p hp
    · simp at hp; subst hp; exact h.lw
  · rw [List.map_append, List.nodup_append]
    refine ⟨h.nd, by simp, fun x hx y hy e => ?_⟩
    obtain ⟨p, hp, rfl⟩ := List.mem_map.1 hx
    have := (h.inn p hp).lt
    simp at hy; omega
  · rcases List.mem_append.1 hp with hp | hp
    · rw [setX_other _ _ (getM_none_iff.1 hg p hp)]
      exact (h.inn p hp).keep hkk ⟨by have := h.far p hp; omega, (h.inn p hp).lt⟩
    · simp at hp; subst hp
      rw [setX_same]; exact hm
  · have h1 := getM_none_iff.1 hn
    have hne : n ≠ name := fun e => h1 (name, w.heap.size) (by simp) e.symm
    rw [setX_other _ _ hne]
    exact h.none n (getM_none_iff.2 (fun p hp => h1 p (by simp [hp])))

theorem look_m {W : World} {m : Nat} {outer : List (ByteArray × Nat)} (h : Mp (strK (P := Tryd.prog) (kt := 9) Tryd.underlying9) mapV W m outer) (name : ByteArray) (x : Option Nat) (hg : getM (fun a b : ByteArray => a == b) outer name = x) :
    (Instr.lookup 80 (.map (some m)) (.string name) false).run Tryd.prog W = .ok (.map x) W := by
  have := h.look Tryd.underlying80 (zero_m W) name false
  rw [show getM ((strK (P := Tryd.prog) (kt := 9) Tryd.underlying9)).eq outer name = x from hg] at this
  rw [show (Value.string name) = MK.of ((strK (P := Tryd.prog) (kt := 9) Tryd.underlying9)) name from rfl, this]
  cases x <;> rfl
theorem look_i {W : World} {m : Nat} {l : List (ByteArray × Int)} (h : Mp (strK (P := Tryd.prog) (kt := 9) Tryd.underlying9) intV W m l) (name : ByteArray) (x : Option Int) (hg : getM (fun a b : ByteArray => a == b) l name = x) :
    (Instr.lookup 79 (.map (some m)) (.string name) true).run Tryd.prog W = .ok (.tuple #[.int .i64 (x.getD 0), .bool x.isSome]) W := by
  have := h.look Tryd.underlying79 (zero_i W) name true
  rw [show getM ((strK (P := Tryd.prog) (kt := 9) Tryd.underlying9)).eq l name = x from hg] at this
  rw [show (Value.string name) = MK.of ((strK (P := Tryd.prog) (kt := 9) Tryd.underlying9)) name from rfl, this]
  cases x <;> rfl
end Go.Proofs.YtdkgphambjnbiaaDoor
