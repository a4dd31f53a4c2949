/-
  What is proved here: slices.Clone of texts makes new memory that holds the same. Conditions: at most 2^30 texts.
-/
import Derived.Test.YtdkgphambjnbiaaDoorBase
import Derived.Test.YtdkgphambjnbiaaDoorShelf
namespace Go.Proofs.YtdkgphambjnbiaaDoor
open Go Go.RowKit Go.Proofs

theorem Own.of_strs {w : World} {base : Nat} {t : TypeId} {v : Value} {n : Nat} {l : List ByteArray} {ok : Nat → Prop} (h : w.ownsRow base t 1 v n (l.map Value.string)) (hl : l.length = n) : Own strR t ok w base v n l := by
  refine ⟨hl, l.map (fun s => [.string s]), ?_, by simpa using hl, fun k a xs h1 h2 => ?_⟩
  · have : (l.map (fun s => [Value.string s])).flatten = l.map Value.string := by
      clear h hl
      induction l with
      | nil => rfl
      | cons a l ih => simp [ih]
    rw [this]; exact h
  · simp [h1] at h2; subst h2; rfl
theorem own_cap {w : World} {base : Nat} {t : TypeId} {size : Nat} {A : Option Addr} {n c : Nat} {xs : List Value} (h : w.ownsRow base t size (.slice A n c) n xs) : n ≤ c := by
  rcases h.2 with ⟨hv, h0⟩ | ⟨g, cap, cur, hv, _, _, hnc, _⟩
  · omega
  · injection hv with _ _ hc; omega

set_option maxRecDepth 100000 in
theorem clone_str (A : Option Addr) (n c : Nat) (l : List ByteArray) (ok : Nat → Prop) (w : World) (hs : Sl strR ok w A n l) (hn : n ≤ 1073741824) :
    Calls Tryd.prog 48 #[.slice A n c] w fun e w' => ∃ A' c', e = .returned (.slice A' n c') ∧ n ≤ c' ∧ Sl strR (fun k => w.heap.size ≤ k) w' A' n l ∧ Ext w w' := by
  have key : ∀ (w' : World) (v' : Value), w'.ownsRow w.heap.size 9 1 v' n (l.map Value.string) → Below w.heap.size w w' → ∃ A' c', Ending.returned v' = .returned (.slice A' n c') ∧ n ≤ c' ∧ Sl strR (fun k => w.heap.size ≤ k) w' A' n l ∧ Ext w w' := by
    intro w' v' ho hb
    have hown := Own.of_strs (ok := fun k => w.heap.size ≤ k) ho hs.1
    obtain ⟨A', c', rfl⟩ := hown.form
    exact ⟨A', c', rfl, own_cap ho, hown.sl (fun g hg _ _ => hg) (fun _ _ h => h), Ext.of_below hb⟩
  rcases A with _ | a
  · have h0 : n = 0 := by
      rcases Nat.eq_zero_or_pos n with h | h
      · exact h
      · obtain ⟨_, _, e, _⟩ := hs.2 h; cases e
    subst h0
    have hl : l = [] := List.eq_nil_of_length_eq_zero hs.1
    subst hl
    refine (Tryd.slices_Clone_string_nil 0 c w).mono ?_
    rintro e w' ⟨rfl, rfl⟩
    exact ⟨none, 0, rfl, Nat.le_refl _, Sl.nil_, Keeps.refl _ _⟩
  · rcases Nat.eq_zero_or_pos n with h | h
    · subst h
      have hl : l = [] := List.eq_nil_of_length_eq_zero hs.1
      subst hl
      refine (Tryd.slices_Clone_string_zero a c w).mono ?_
      rintro e w' ⟨v', rfl, ho, _, hb⟩
      exact key w' v' ho hb
    · obtain ⟨b, o, e, hb, _, hc⟩ := hs.2 h
      injection e with e
      subst e
      refine (Tryd.slices_Clone_string b o n c l w (Nat.le_of_eq hs.1.symm) (by omega) (fun j hj => ?_)).mono ?_
      · obtain ⟨xs, rfl, hx⟩ := hc j l[j] (List.getElem?_eq_getElem hj)
        have := hx 0 _ rfl
        simp only [strR, Nat.mul_one, Nat.add_zero] at this
        rw [this, List.getD_eq_getElem?_getD, List.getElem?_eq_getElem hj]; rfl
      · rintro e w' ⟨v', rfl, ho, _, hb⟩
        rw [List.take_of_length_le (Nat.le_of_eq hs.1)] at ho
        exact key w' v' ho hb

end Go.Proofs.YtdkgphambjnbiaaDoor
