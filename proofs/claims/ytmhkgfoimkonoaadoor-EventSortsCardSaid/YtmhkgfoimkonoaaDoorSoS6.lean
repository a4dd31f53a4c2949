/-
  What is proved here: the library's symMerge at a row of events: how a place is sought at which both parts are parted, and the whole. Conditions: at most a million events.
-/
import Derived.Test.YtmhkgfoimkonoaaDoorSoS5
namespace Go.Proofs.YtmhkgfoimkonoaaDoor
open Go Go.RowKit Go.Proofs
attribute [local go_sem ↓] Go.wp_at_zero Go.wp_at_succ
/-- Where both parts are parted: U is D's part from a to m, V that from m to b; q is one less than the sum of both places. -/
structure Part (U V : List Ev) (a m b q lo hi s r : Nat) : Prop where
  lo_ : ∀ (t : Nat) (x y : Ev), lo ≤ t → t < s → U[t - a]? = some x → V[q - t - m]? = some y → lessE y x = false
  hi_ : ∀ (t : Nat) (x y : Ev), r ≤ t → t < hi → U[t - a]? = some x → V[q - t - m]? = some y → lessE y x = true
  l1 : lo ≤ s
  l2 : s ≤ r
  l3 : r ≤ hi
/-- The bounds of the search. -/
structure Bnds (U V : List Ev) (a m b mid lo hi : Nat) : Prop where
  hm : a + U.length = m
  hb : m + V.length = b
  md : mid = (a + b) / 2
  two : (mid < m ∧ lo = mid + m - b ∧ hi = mid) ∨ (m ≤ mid ∧ lo = a ∧ hi = m)
  u1 : 0 < U.length
  v1 : 0 < V.length
theorem Bnds.in_ {U V : List Ev} {a m b mid lo hi : Nat} (h : Bnds U V a m b mid lo hi) {t : Nat} (h1 : lo ≤ t) (h2 : t < hi) : a ≤ t ∧ t < m ∧ m ≤ mid + m - 1 - t ∧ mid + m - 1 - t < b ∧ t ≤ mid + m - 1 := by
  have := h.hm
  have := h.hb
  have := h.md
  have := h.u1
  have := h.v1
  rcases h.two with ⟨g1, g2, g3⟩ | ⟨g1, g2, g3⟩ <;> omega
theorem Bnds.le {U V : List Ev} {a m b mid lo hi : Nat} (h : Bnds U V a m b mid lo hi) : lo ≤ hi ∧ a ≤ lo ∧ hi ≤ m ∧ hi ≤ mid ∧ mid < b ∧ a ≤ mid := by
  have := h.hm
  have := h.hb
  have := h.md
  have := h.u1
  have := h.v1
  rcases h.two with ⟨g1, g2, g3⟩ | ⟨g1, g2, g3⟩ <;> omega
theorem Part.start {U V : List Ev} {a m b q lo hi : Nat} (h : lo ≤ hi) : Part U V a m b q lo hi lo hi := ⟨fun _ _ _ _ _ => by omega, fun _ _ _ _ _ => by omega, Nat.le_refl _, h, Nat.le_refl _⟩
theorem Part.up {U V : List Ev} {a m b mid lo hi s r c : Nat} (h : Part U V a m b (mid + m - 1) lo hi s r) (hb : Bnds U V a m b mid lo hi) (hU : Srt lessE U) (hV : Srt lessE V) (hc1 : s ≤ c) (hc2 : c < r) {x y : Ev} (hx : U[c - a]? = some x) (hy : V[mid + m - 1 - c - m]? = some y) (hl : lessE y x = false) : Part U V a m b (mid + m - 1) lo hi (c + 1) r := by
  have hl1 := h.l1
  have hl3 := h.l3
  refine ⟨fun t u v h1 h2 hu hv => ?_, h.hi_, by omega, by omega, by omega⟩
  obtain ⟨b1, b2, b3, b4, b5⟩ := hb.in_ (t := c) (by omega) (by omega)
  have hux : lessE x u = false := srt_at hU (s := t - a) (t := c - a) (by omega) hu hx
  have hvy : lessE v y = false := srt_at hV (s := mid + m - 1 - c - m) (t := mid + m - 1 - t - m) (by omega) hy hv
  exact lessE_swo.ntrans hvy (lessE_swo.ntrans hl hux)
theorem Part.down {U V : List Ev} {a m b mid lo hi s r c : Nat} (h : Part U V a m b (mid + m - 1) lo hi s r) (hb : Bnds U V a m b mid lo hi) (hU : Srt lessE U) (hV : Srt lessE V) (hc1 : s ≤ c) (hc2 : c < r) {x y : Ev} (hx : U[c - a]? = some x) (hy : V[mid + m - 1 - c - m]? = some y) (hl : lessE y x = true) : Part U V a m b (mid + m - 1) lo hi s c := by
  have hl1 := h.l1
  have hl3 := h.l3
  refine ⟨h.lo_, fun t u v h1 h2 hu hv => ?_, by omega, by omega, by omega⟩
  obtain ⟨b1, b2, b3, b4, b5⟩ := hb.in_ (t := t) (by omega) (by omega)
  have hux : lessE u x = false := srt_at hU (s := c - a) (t := t - a) (by omega) hx hu
  have hvy : lessE y v = false := srt_at hV (s := mid + m - 1 - t - m) (t := mid + m - 1 - c - m) (by omega) hv hy
  exact lessE_swo.lt_le (lessE_swo.le_lt hvy hl) hux
theorem get_take {l : List Ev} {k : Nat} {x : Ev} (h : x ∈ l.take k) : ∃ t, t < k ∧ l[t]? = some x := by
  obtain ⟨t, ht, e⟩ := List.mem_iff_getElem.1 h
  rw [List.length_take] at ht
  exact ⟨t, by omega, by rw [← e, List.getElem_take, List.getElem?_eq_getElem]⟩
theorem get_drop {l : List Ev} {k : Nat} {x : Ev} (h : x ∈ l.drop k) : ∃ t, k ≤ t ∧ l[t]? = some x := by
  obtain ⟨t, ht, e⟩ := List.mem_iff_getElem.1 h
  rw [List.length_drop] at ht
  exact ⟨k + t, by omega, by rw [← e, List.getElem_drop, List.getElem?_eq_getElem]⟩
/-- What is known when the place is found. -/
theorem Part.done {U V : List Ev} {a m b mid lo hi s : Nat} (h : Part U V a m b (mid + m - 1) lo hi s s) (hb : Bnds U V a m b mid lo hi) (hU : Srt lessE U) (hV : Srt lessE V) :
    (∀ x ∈ U.drop (s - a), ∀ y ∈ V.take (mid - s), lessE y x = true) ∧ ∀ x ∈ U.take (s - a), ∀ y ∈ V.drop (mid - s), lessE y x = false := by
  have hl1 := h.l1
  have hl3 := h.l3
  obtain ⟨e1, e2, e3, e4, e5, e6⟩ := hb.le
  have hm := hb.hm
  have hbb := hb.hb
  constructor
  · intro x hx y hy
    obtain ⟨t, ht, hxt⟩ := get_drop hx
    obtain ⟨v, hv, hyv⟩ := get_take hy
    have htl := (List.getElem?_eq_some_iff.1 hxt).1
    have hvl := (List.getElem?_eq_some_iff.1 hyv).1
    -- s < hi: else one part is empty
    have hsh : s < hi := by
      rcases hb.two with ⟨g1, g2, g3⟩ | ⟨g1, g2, g3⟩ <;> omega
    obtain ⟨b1, b2, b3, b4, b5⟩ := hb.in_ (t := s) hl1 hsh
    obtain ⟨x', hx'⟩ : ∃ x', U[s - a]? = some x' := ⟨_, List.getElem?_eq_getElem (by omega)⟩
    obtain ⟨y', hy'⟩ : ∃ y', V[mid + m - 1 - s - m]? = some y' := ⟨_, List.getElem?_eq_getElem (by omega)⟩
    have h0 := h.hi_ s x' y' (Nat.le_refl _) hsh hx' hy'
    have h1 : lessE x x' = false := srt_at hU ht hx' hxt
    have h2 : lessE y' y = false := srt_at hV (s := v) (t := mid + m - 1 - s - m) (by omega) hyv hy'
    exact lessE_swo.lt_le (lessE_swo.le_lt h2 h0) h1
  · intro x hx y hy
    obtain ⟨t, ht, hxt⟩ := get_take hx
    obtain ⟨v, hv, hyv⟩ := get_drop hy
    have htl := (List.getElem?_eq_some_iff.1 hxt).1
    have hvl := (List.getElem?_eq_some_iff.1 hyv).1
    have hsl : lo < s := by
      rcases hb.two with ⟨g1, g2, g3⟩ | ⟨g1, g2, g3⟩ <;> omega
    obtain ⟨b1, b2, b3, b4, b5⟩ := hb.in_ (t := s - 1) (by omega) (by omega)
    obtain ⟨x', hx'⟩ : ∃ x', U[s - 1 - a]? = some x' := ⟨_, List.getElem?_eq_getElem (by omega)⟩
    obtain ⟨y', hy'⟩ : ∃ y', V[mid + m - 1 - (s - 1) - m]? = some y' := ⟨_, List.getElem?_eq_getElem (by omega)⟩
    have h0 := h.lo_ (s - 1) x' y' (by omega) (by omega) hx' hy'
    have h1 : lessE x' x = false := srt_at hU (s := t) (t := s - 1 - a) (by omega) hxt hx'
    have h2 : lessE y y' = false := srt_at hV (s := mid + m - 1 - (s - 1) - m) (t := v) (by omega) hy' hyv
    exact lessE_swo.ntrans h2 (lessE_swo.ntrans h0 h1)
end Go.Proofs.YtmhkgfoimkonoaaDoor
