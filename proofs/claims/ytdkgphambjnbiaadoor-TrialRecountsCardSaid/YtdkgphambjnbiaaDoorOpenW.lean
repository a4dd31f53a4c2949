/-
  What is proved here: an argument that is a slice, of strings or of records, is opened: what it holds as a plain list; no text is longer than what the form lets in. No condition.
-/
import Derived.Test.YtdkgphambjnbiaaDoorBase
import Derived.Test.YtdkgphambjnbiaaDoorRows
import Derived.Deep.Slices
import Derived.Deep.Fields
import Derived.ChangeArms
import Derived.ProofKit
import Derived.MakeChecks
namespace Go.Proofs.YtdkgphambjnbiaaDoor
open Go Go.RowKit Go.Proofs Go.Deep Go.ChangeShapes Go.WideShapes

section
variable {H : Type} {P : Program}
theorem weightsAll_mem {e : TypeId} {d : DataW H} {n : Nat} : ∀ {l : List (DataW H)}, d ∈ l → n ∈ d.weights P e → n ∈ DataW.weightsAll P e l
  | x :: l, hd, hn => by
    simp only [DataW.weightsAll, List.mem_append]
    rcases List.mem_cons.1 hd with h | h
    · subst h; exact .inl hn
    · exact .inr (weightsAll_mem h hn)
theorem weightsEach_mem {t : TypeId} {d : DataW H} {n : Nat} : ∀ {ts : List TypeId} {ds : List (DataW H)} {j : Nat}, ts[j]? = some t → ds[j]? = some d → n ∈ d.weights P t → n ∈ DataW.weightsEach P ts ds
  | x :: ts, y :: ds, j, h1, h2, hn => by
    simp only [DataW.weightsEach, List.mem_append]
    cases j with
    | zero => simp at h1 h2; subst h1 h2; exact .inl hn
    | succ j => exact .inr (weightsEach_mem (j := j) (by simpa using h1) (by simpa using h2) hn)
  | [], _, _, h1, _, _ => by simp at h1
  | _ :: _, [], _, _, h2, _ => by simp at h2
/-- No part is greater than what the form lets in. -/
def Lim (P : Program) (t : TypeId) (d : DataW H) : Prop := ∀ n ∈ d.weights P t, n ≤ reachBytes
theorem lim_each {ts : List TypeId} {ds : List (DataW H)} (h : (DataW.weightsEach P ts ds).all (· ≤ reachBytes) = true) {j : Nat} {t : TypeId} {d : DataW H} (ht : ts[j]? = some t) (hd : ds[j]? = some d) : Lim P t d := fun n hn => by
  simpa using List.all_eq_true.1 h n (weightsEach_mem ht hd hn)
theorem lim_part {t : TypeId} {fs : Array Field} {parts : List (DataW H)} (hu : P.underlying t = some (.struct fs)) (h : Lim P t (.agg parts)) {j : Nat} {f : Field} {d : DataW H} (hf : fs.toList[j]? = some f) (hd : parts[j]? = some d) : Lim P f.type d := fun n hn => by
  refine h n ?_
  simp only [DataW.weights, hu]
  exact weightsEach_mem (j := j) (by rw [List.getElem?_map, hf]; rfl) hd hn
theorem lim_elem {t e : TypeId} {elems spare : List (DataW H)} (hu : P.underlying t = some (.slice e)) (h : Lim P t (.slice elems spare)) {d : DataW H} (hd : d ∈ elems) : Lim P e d := fun n hn => by
  refine h n ?_
  simp only [DataW.weights, hu, List.mem_cons, List.mem_append]
  exact .inr (.inl (weightsAll_mem hd hn))
theorem lim_len {t e : TypeId} {elems spare : List (DataW H)} (hu : P.underlying t = some (.slice e)) (h : Lim P t (.slice elems spare)) : (elems.length + spare.length) * P.bytesOf e ≤ 140737488351232 := by
  have := h ((elems.length + spare.length) * P.bytesOf e) (by simp only [DataW.weights, hu]; simp)
  exact this
theorem lim_str {t : TypeId} {s : ByteArray} (h : Lim (H := H) P t (.lit (.string s.data.toList))) : s.size ≤ 140737488355328 := by
  have := h s.data.toList.length (by simp [DataW.weights])
  have h2 : s.data.toList.length ≤ 140737488351232 := this
  have h3 : s.data.toList.length = s.size := rfl
  omega
end

section
variable {H : Type} {enc : TypeId × Value → H} {P : Program} {W : World} {sp : Nat → Bool} {held : Bool}
theorem cell_spot {w : World} {a : Addr} {v : Value} (h : w.cell? a = some v) : a.spot = none ∧ a.block < w.heap.size := by
  unfold World.cell? at h
  split at h
  · rename_i he
    refine ⟨?_, (Array.getElem?_eq_some_iff.1 he).1⟩
    cases hs : a.spot with
    | none => rfl
    | some n => rw [hs] at h; simp at h
  · cases h
theorem open_Sl {α : Type} {R : Rep α} {good : α → Prop} {base : Nat} {t e : TypeId} {fuel : Nat} {cs : List Value} {x : DataW H × List MemPlace} (ht : P.underlying t = some (.slice e)) (hC : P.cellsOf e = R.size) (hpos : 0 < R.size)
    (hel : ∀ n cs' x, cs'.length = R.size → DataW.trod enc P W base sp held n e cs' = some x → Lim P e x.1 → ∃ a, good a ∧ R.rep (fun k => k < W.heap.size) W a cs')
    (h : DataW.trod enc P W base sp held fuel t cs = some x) (hlim : Lim P t x.1) (hby : 1 ≤ P.bytesOf e) :
    ∃ (A : Option Addr) (n c : Nat) (l : List α), cs = [.slice A n c] ∧ n ≤ c ∧ c ≤ maxLen ∧ n ≤ 140737488355328 ∧ Sl R (fun k => k < W.heap.size) W A n l ∧ ∀ a ∈ l, good a := by
  rcases open_slice ht h with ⟨rfl, _⟩ | ⟨a, len, cap, m, n, D, Pl, rfl, hb, hl, hm, hmm, hx, hi⟩
  · exact ⟨none, 0, 0, [], rfl, Nat.le_refl _, Nat.zero_le _, Nat.zero_le _, Sl.nil_, by simp⟩
  · subst hx
    have hlm : len ≤ m := by rw [hmm]; split <;> omega
    have hlen : len ≤ 140737488355328 := by
      have h1 := lim_len ht hlim
      simp only [List.length_map, List.length_range] at h1
      have h2 := Nat.mul_le_mul_left (len + (m - len)) hby
      omega
    have hex : ∀ i : Fin len, ∃ y : α, good y ∧ ∃ xs, R.rep (fun k => k < W.heap.size) W y xs ∧ ∀ (j : Nat) (u : Value), xs[j]? = some u → W.cell? (a.add (i.1 * R.size + j)) = some u := fun i => by
      obtain ⟨cs', hc, ht'⟩ := hi i.1 (Nat.lt_of_lt_of_le i.2 hlm)
      rw [hC] at hc
      obtain ⟨_, hcl, hat⟩ := World.cells?_some hc
      obtain ⟨y, hg, hr⟩ := hel _ _ _ hcl ht' (lim_elem ht hlim (List.mem_map.2 ⟨i.1, List.mem_range.2 i.2, rfl⟩))
      refine ⟨y, hg, cs', hr, fun j u hu => ?_⟩
      have hj : j < R.size := by rw [← hcl]; exact (List.getElem?_eq_some_iff.1 hu).1
      rw [← Go.Deep.add_add, hat j hj, hu]
    refine ⟨some a, len, cap, List.ofFn fun i => (hex i).choose, rfl, hl, hm, hlen, ⟨by simp, fun hn => ?_⟩, fun y hy => ?_⟩
    · obtain ⟨_, xs, hr, hxs⟩ := (hex ⟨0, hn⟩).choose_spec
      have hlen := R.len hr
      have h0 := hxs 0 _ (List.getElem?_eq_getElem (by omega : 0 < xs.length))
      have ha0 : a.add (0 * R.size + 0) = a := by simp [Addr.add]
      rw [show (⟨0, hn⟩ : Fin len).1 = 0 from rfl, ha0] at h0
      obtain ⟨hs, hb'⟩ := cell_spot h0
      obtain ⟨b, o, s⟩ := a
      simp only at hs hb'
      subst hs
      refine ⟨b, o, rfl, hb', hb', fun k y hk => ?_⟩
      obtain ⟨hk1, hk2⟩ := List.getElem?_eq_some_iff.1 hk
      simp only [List.length_ofFn] at hk1
      obtain ⟨_, xs', hr', hx'⟩ := (hex ⟨k, hk1⟩).choose_spec
      simp only [List.getElem_ofFn] at hk2
      rw [hk2] at hr'
      refine ⟨xs', hr', fun j u hu => ?_⟩
      have := hx' j u hu
      rw [ad_add] at this
      rw [← Nat.add_assoc] at this
      exact this
    · obtain ⟨i, hi'⟩ := List.mem_ofFn.1 hy
      rw [← hi']
      exact (hex i).choose_spec.1
theorem open_strs {base : Nat} {t e : TypeId} {fuel : Nat} {cs : List Value} {x : DataW H × List MemPlace} (ht : P.underlying t = some (.slice e)) (he : P.underlying e = some .string) (hC : P.cellsOf e = 1) (hby : 1 ≤ P.bytesOf e)
    (h : DataW.trod enc P W base sp held fuel t cs = some x) (hlim : Lim P t x.1) :
    ∃ (A : Option Addr) (n c : Nat) (l : List ByteArray), cs = [.slice A n c] ∧ n ≤ c ∧ c ≤ maxLen ∧ n ≤ 140737488355328 ∧ Sl strR (fun k => k < W.heap.size) W A n l ∧ ∀ a ∈ l, a.size ≤ 140737488355328 :=
  open_Sl (R := strR) (good := fun s => s.size ≤ 140737488355328) ht hC (by decide) (fun _ _ _ _ h hl => by
    obtain ⟨s, rfl, hx, hs⟩ := DataW.trod_string he h
    rw [hx] at hl
    exact ⟨s, lim_str hl, rfl⟩) h hlim hby
end
end Go.Proofs.YtdkgphambjnbiaaDoor
