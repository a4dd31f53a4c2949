/-
  What is proved here: more small laws on slices. No program is in sight. No condition.
-/
import Derived.Test.YtmhkgfoimkonoaaDoorModel
namespace Go.Proofs.YtmhkgfoimkonoaaDoor
open Go Go.RowKit

/-- Elements that lead nowhere. -/
def Rep.flat {α : Type} (R : Rep α) : Prop := ∀ (ok ok' : Nat → Prop) (w w' : World) (a : α) (xs : List Value), R.rep ok w a xs → R.rep ok' w' a xs
theorem strR_flat : strR.flat := fun _ _ _ _ _ _ h => h
theorem Own.flat {α : Type} {R : Rep α} {t : TypeId} {ok ok' : Nat → Prop} {w w' : World} {base : Nat} {v : Value} {n : Nat} {l : List α} (hf : R.flat) (h : Own R t ok w base v n l) (hv : ∀ g, v.ownBlock = some g → w'.heap[g]? = w.heap[g]?) : Own R t ok' w' base v n l := by
  obtain ⟨hl, xss, ho, hx, hr⟩ := h
  refine ⟨hl, xss, ⟨ho.1, ?_⟩, hx, fun k a xs h1 h2 => hf _ _ _ _ _ _ (hr k a xs h1 h2)⟩
  rcases ho.2 with hn | ⟨g, cap, cur, rfl, hb, hg, r⟩
  · exact .inl hn
  · exact .inr ⟨g, cap, cur, rfl, hb, by rw [hv g rfl]; exact hg, r⟩
theorem Sl.flat_src {α : Type} {R : Rep α} {ok ok' : Nat → Prop} {w : World} {A : Option Addr} {n : Nat} {l : List α} (hf : R.flat) (h : Sl R ok w A n l) : Srcs R ok' w A n l :=
  ⟨h.1, fun hn => by
    obtain ⟨b, o, e, _, _, hc⟩ := h.2 hn
    exact ⟨b, o, e, fun k a ha => by
      obtain ⟨xs, hr, hx⟩ := hc k a ha
      exact ⟨xs, hf _ _ _ _ _ _ hr, hx⟩⟩⟩
/-- The row of a slice is no block of another element type. -/
theorem Own.ne_blk {α : Type} {R : Rep α} {t t' : TypeId} {ok : Nat → Prop} {w : World} {base : Nat} {v : Value} {n : Nat} {l : List α} {g : Nat} {C : Array Value} {fr : Nat × Nat} (h : Own R t ok w base v n l) (hg : w.heap[g]? = some (.cells C t' fr)) (ht : t ≠ t') : v.ownBlock ≠ some g := by
  intro e
  rcases h.2.choose_spec.1.2 with ⟨hv, _⟩ | ⟨g', cap, cur, hv, _, hh, _⟩
  · rw [hv] at e; simp [Value.ownBlock] at e
  · rw [hv] at e
    have : g' = g := by simpa [Value.ownBlock] using e
    subst this
    rw [hg] at hh
    injection hh with hh
    injection hh with _ ht'
    exact ht ht'.symm
theorem Own.cap {α : Type} {R : Rep α} {t : TypeId} {ok : Nat → Prop} {w : World} {base : Nat} {A : Option Addr} {n c : Nat} {l : List α} (h : Own R t ok w base (.slice A n c) n l) : n ≤ c := by
  rcases h.2.choose_spec.1.2 with ⟨hv, h0⟩ | ⟨g, cap, cur, hv, _, _, hnc, _⟩
  · omega
  · injection hv with _ _ hc; omega
/-- Cells of a new block, as a slice. -/
theorem Sl.new_flat {α : Type} {R : Rep α} {ok : Nat → Prop} {w : World} {g : Nat} {C : Array Value} {t : TypeId} {fr : Nat × Nat} {l : List α} {n : Nat} (hg : w.heap[g]? = some (.cells C t fr)) (ho : ok g) (hl : l.length = n)
    (h : ∀ (k : Nat) (a : α), l[k]? = some a → ∃ xs, R.rep ok w a xs ∧ ∀ (j : Nat) (u : Value), xs[j]? = some u → C[k * R.size + j]? = some u) : Sl R ok w (some ⟨g, 0, none⟩) n l :=
  ⟨hl, fun _ => ⟨g, 0, rfl, (Array.getElem?_eq_some_iff.1 hg).1, ho, fun k a ha => by
    obtain ⟨xs, hr, hx⟩ := h k a ha
    exact ⟨xs, hr, fun j u hu => blk_cell hg _ (by rw [Nat.zero_add]; exact hx j u hu)⟩⟩⟩
theorem Sl.new_strs {ok : Nat → Prop} {w : World} {g : Nat} {C : Array Value} {t : TypeId} {fr : Nat × Nat} {l : List ByteArray} {n : Nat} (hg : w.heap[g]? = some (.cells C t fr)) (ho : ok g) (hl : l.length = n) (hC : C = (l.map Value.string).toArray) : Sl strR ok w (some ⟨g, 0, none⟩) n l :=
  Sl.new_flat hg ho hl fun k a ha => ⟨[.string a], rfl, fun j u hu => by
    subst hC
    match j, hu with
    | 0, hu => simp at hu; subst hu; simp [strR, ha]⟩
theorem Own.new_strs {ok : Nat → Prop} {w : World} {g base : Nat} {C : Array Value} {t : TypeId} {l : List ByteArray} {n : Nat} (hg : w.heap[g]? = some (.cells C t)) (hb : base ≤ g) (hl : l.length = n) (hn : n ≤ 1000000) (hC : C = (l.map Value.string).toArray) : Own strR t ok w base (.slice (some ⟨g, 0, none⟩) n n) n l := by
  refine ⟨hl, l.map (fun s => [.string s]), ?_, by simpa using hl, fun k a xs h1 h2 => by simp [h1] at h2; subst h2; rfl⟩
  have hfl : (l.map (fun s => [Value.string s])).flatten = l.map Value.string := by
    clear hg hl hC
    induction l with
    | nil => rfl
    | cons a l ih => simp [ih]
  rw [hfl]
  refine ⟨by simp [strR, hl], .inr ⟨g, n, C, rfl, hb, hg, Nat.le_refl _, by unfold maxLen; omega, by subst hC; simp [strR, hl], by subst hC; simp only [strR, Nat.mul_one]; exact List.take_of_length_le (by simp [hl])⟩⟩
end Go.Proofs.YtmhkgfoimkonoaaDoor
