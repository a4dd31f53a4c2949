/-
  What is proved here: a chain is made, and what its next entry's sum is behind. Conditions: where they are named.
-/
import Derived.Test.YtkfcbafmefdhmaaDoorEnt7
import Derived.Test.YtkfcbafmefdhmaaDoorEnt2
namespace Go.Proofs.YtkfcbafmefdhmaaDoor
open Go Go.RowKit Go.Proofs
attribute [local go_sem ↓] Go.wp_at_zero Go.wp_at_succ

def aheadOf (seed : Int) (es : List Ent) : Int := match es.getLast? with | some e => e.sum | none => seed
/-- A chain lies at block b; v is its slice. -/
structure ChainAt (w : World) (b : Nat) (seed : Int) (es : List Ent) (v : Value) : Prop where
  blk : w.heap[b]? = some (.cells #[.int .u64 seed, v] 55)
  own : Own entR 33 (fun k => b < k) w (b + 1) v es.length es
theorem ChainAt.ext {w w' : World} {b : Nat} {seed : Int} {es : List Ent} {v : Value} (h : ChainAt w b seed es v) (hx : Ext w w') : ChainAt w' b seed es v := ⟨hx.blk h.blk, h.own.ext hx⟩
/-- What else is written leaves a chain alone. -/
theorem ChainAt.keep {w w' : World} {b : Nat} {seed : Int} {es : List Ent} {v : Value} {ok : Nat → Prop} (h : ChainAt w b seed es v) (hx : Keeps ok w w') (ho : ∀ k, b ≤ k → k < w.heap.size → ok k) : ChainAt w' b seed es v :=
  ⟨hx.blk h.blk (ho b (Nat.le_refl _) (Array.getElem?_eq_some_iff.1 h.blk).1), h.own.keep (hx.mono fun k hk hoff => ho k (Nat.le_of_lt hoff.1) hk) (fun g hg => by
    have := h.own.lt g hg
    exact hx.block g this.2 (ho g (by omega) this.2))⟩

set_option maxHeartbeats 1000000 in
theorem chain_New (seed : Int) (w : World) :
    Calls Tryd.prog 10 #[.int .u64 seed] w fun e w' => e = .returned (.pointer (some ⟨w.heap.size, 0, none⟩)) ∧ ChainAt w' w.heap.size seed [] (.slice none 0 0) ∧ Ext w w' := by
  go_enter Tryd.func10, Tryd.ntmps10
  go_wp2_with fail
  go_ret
  exact ⟨rfl, ⟨blk_new w _, Own.nil_⟩, (Keeps.refl _ _).alloc _⟩

set_option maxRecDepth 100000 in
set_option maxHeartbeats 1000000 in
theorem chain_ahead (b : Nat) (seed : Int) (es : List Ent) (v : Value) (w : World) (h : ChainAt w b seed es v) (hn : es.length ≤ 1000000) :
    Calls Tryd.prog 30 #[.pointer (some ⟨b, 0, none⟩)] w fun e w' => e = .returned (.int .u64 (aheadOf seed es)) ∧ w = w' := by
  have q0 := blk_cell h.blk 0 rfl
  have q1 := blk_cell h.blk 1 rfl
  have hown := h.own
  obtain ⟨A, c, rfl⟩ := hown.form
  have hs := hown.sl (ok' := fun _ => True) (fun _ _ _ _ => trivial) (fun _ _ _ => trivial)
  have Hs := Lib.hid hs
  clear h hown hs
  by_cases hz : es.length = 0
  · have he : es = [] := List.eq_nil_of_length_eq_zero hz
    subst he
    simp only [List.length_nil] at q1
    go_enter Tryd.func30, Tryd.ntmps30
    go_wp2_with fail
    go_ret
    exact ⟨rfl, rfl⟩
  · have hpos : 0 < es.length := by omega
    obtain ⟨b', o, e, A', c', rfl, hb, ho, he, hc', hs', d0, d1, d2, d3, d4⟩ := Hs.out.ent (k := es.length - 1) (by omega)
    have Hf := Lib.hid (show aheadOf seed es = e.sum by
      unfold aheadOf
      rw [List.getLast?_eq_getElem?, he])
    have hz0 : (0 : Int) < (es.length : Int) := by omega
    clear hs' he d0 d1 d2 d3 hz
    go_enter Tryd.func30, Tryd.ntmps30
    go_wp2_with fail
    go_ret
    exact ⟨by rw [Hf.out]; rfl, rfl⟩
end Go.Proofs.YtkfcbafmefdhmaaDoor
