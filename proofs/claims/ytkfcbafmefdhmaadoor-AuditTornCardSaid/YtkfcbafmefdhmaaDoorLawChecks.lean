/-
  What is proved here: the law AuditChecks returns true, whatever the seed and the entries, and leaves old memory as it was. Conditions: the table of powers is laid, and the slice holds entries.
-/
import Derived.Test.YtkfcbafmefdhmaaDoorLives
import Derived.Test.YtkfcbafmefdhmaaDoorCheck3
import Derived.Test.YtkfcbafmefdhmaaDoorEnt2
namespace Go.Proofs.YtkfcbafmefdhmaaDoor
open Go Go.RowKit Go.Proofs
attribute [local go_sem ↓] Go.wp_at_zero Go.wp_at_succ

theorem fewB_in {es : List Ent} (h : fewB es = true) : es.length ≤ 31 ∧ ∀ e ∈ es, EntIn e ∧ e.items.length ≤ 30 ∧ e.person.size ≤ 100 ∧ ∀ s ∈ e.items, s.size ≤ 100 := by
  simp only [fewB, Bool.and_eq_true, decide_eq_true_eq, List.all_eq_true] at h
  refine ⟨h.1, fun e he => ?_⟩
  have h2 := h.2 e he
  simp only [fewE, Bool.and_eq_true, decide_eq_true_eq, List.all_eq_true] at h2
  exact ⟨⟨by unfold maxLen; omega, by unfold maxLen; omega, fun s hs => by have := h2.2 s hs; unfold maxLen; omega⟩, h2.1.2, h2.1.1, h2.2⟩

set_option maxRecDepth 100000 in
set_option maxHeartbeats 4000000 in
theorem law_Checks (seed : Int) (A : Option Addr) (n c : Nat) (es : List Ent) (ok : Nat → Prop) (w : World) (hs : Sl entR ok w A n es) (hn : n ≤ maxLen) (hok : ∀ k, ok k → k < w.heap.size) (hpow : Pow w) :
    Calls Tryd.prog 4 #[.int .u64 seed, .slice A n c] w fun e w' => e = .returned (.bool true) ∧ Ext w w' := by
  have Hs := Lib.hid hs
  have Hok := Lib.hid hok
  have Hpow := Lib.hid hpow
  have Hn := Lib.hid hn
  clear hs hok hpow hn
  cases hf : fewB es
  · go_enter Tryd.func4, Tryd.ntmps4
    go_wp2_with (first
      | (go_at_call 8; refine (law_lives _ Hpow.out).mono ?_; rintro _ w1 ⟨rfl, hx1⟩; have Hx1 := Lib.hid hx1; clear hx1)
      | (go_at_call 9; refine (ref_Few A n c es ok _ (Hs.out.ext Hx1.out) Hn.out).mono ?_; rw [hf]; rintro _ w2 ⟨rfl, rfl⟩))
    go_ret
    exact ⟨rfl, Hx1.out⟩
  · obtain ⟨hl, hin⟩ := fewB_in hf
    have Hin := Lib.hid hin
    have hnl : n ≤ 31 := by have := Hs.out.1; omega
    clear hin
    go_enter Tryd.func4, Tryd.ntmps4
    go_wp2_with (first
      | (go_at_call 8; refine (law_lives _ Hpow.out).mono ?_; rintro _ w1 ⟨rfl, hx1⟩; have Hx1 := Lib.hid hx1; clear hx1)
      | (go_at_call 9; refine (ref_Few A n c es ok _ (Hs.out.ext Hx1.out) Hn.out).mono ?_; rw [hf]; rintro _ w2 ⟨rfl, rfl⟩)
      | (go_at_call 20; refine (law_handed A n c es ok _ (Hs.out.ext Hx1.out) (by omega) (fun k hk => Nat.lt_of_lt_of_le (Hok.out k hk) Hx1.out.size)).mono ?_; rintro _ w3 ⟨v3, rfl, hown3, hx3⟩; obtain ⟨A3, c3, rfl⟩ := hown3.form; have Hown3 := Lib.hid hown3; have Hx3 := Lib.hid (Hx1.out.trans hx3); clear hown3 hx3)
      | (go_at_call 19; refine (aud_Check seed A3 n c3 es (fun _ => True) _ (Hown3.out.sl (fun _ _ _ _ => trivial) (fun _ _ _ => trivial)) (by omega) (fun e he => (Hin.out e he).1) (Hpow.out.ext Hx3.out)).mono ?_; rintro _ w4 ⟨rfl, hx4⟩; have Hx4 := Lib.hid (Hx3.out.trans hx4); clear hx4)
      | (go_at_call 21; refine (ref_Check seed A n c es ok _ (Hs.out.ext Hx4.out) (by omega) (fun e he => (Hin.out e he).1)).mono ?_; rintro _ w5 ⟨rfl, hx5⟩; have Hx5 := Lib.hid (Hx4.out.trans hx5); clear hx5))
    go_ret
    exact ⟨rfl, Hx5.out⟩
end Go.Proofs.YtkfcbafmefdhmaaDoor
