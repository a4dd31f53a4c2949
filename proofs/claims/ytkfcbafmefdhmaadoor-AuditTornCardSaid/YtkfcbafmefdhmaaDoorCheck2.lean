/-
  What is proved here: the document's Check returns checkL. Conditions: at most a million entries, in range.
-/
import Derived.Test.YtkfcbafmefdhmaaDoorCheck
import Derived.Test.YtkfcbafmefdhmaaDoorEnt3
import Derived.Test.YtkfcbafmefdhmaaDoorEnt4
import Derived.Test.YtkfcbafmefdhmaaDoorChain3
import Derived.Test.YtkfcbafmefdhmaaDoorQuiet
namespace Go.Proofs.YtkfcbafmefdhmaaDoor
open Go Go.RowKit Go.Proofs
attribute [local go_sem ↓] Go.wp_at_zero Go.wp_at_succ

/-- Entries that can be looked at. -/
structure EntIn (e : Ent) : Prop where
  n : e.items.length ≤ maxLen
  p : e.person.size < maxLen
  i : ∀ s ∈ e.items, s.size < maxLen

set_option maxRecDepth 100000 in
set_option maxHeartbeats 4000000 in
theorem ref_Check (seed : Int) (A : Option Addr) (n c : Nat) (es : List Ent) (ok : Nat → Prop) (w : World) (hs : Sl entR ok w A n es) (hn : n ≤ 1000000) (hin : ∀ e ∈ es, EntIn e) :
    Calls Tryd.prog 21 #[.int .u64 seed, .slice A n c] w fun e w' => e = .returned (.int .i64 (checkL seed es)) ∧ Ext w w' := by
  have Hs := Lib.hid hs
  have Hin := Lib.hid hin
  have Hl := Lib.hid hs.1
  clear hs hin
  go_enter Tryd.func21, Tryd.ntmps21
  go_wp2_with fail
  go_loopw [5, 6] (fun a i wr => ∃ (k : Nat) (x : Int), k ≤ n ∧ i = .int .i64 k ∧ a = .int .u64 x ∧ CheckAt seed es k x ∧ Ext w wr) (fun _ i _ => n - (intOf i).toNat)
  case atStart => exact ⟨0, seed, Nat.zero_le _, rfl, rfl, CheckAt.start _ _, Keeps.refl _ _⟩
  case round =>
    obtain ⟨k, x, hk, rfl, rfl, hck, hx⟩ := hrel
    have Hck := Lib.hid hck
    have Hx := Lib.hid hx
    have Ho := Lib.hid (Old.of_ext hx)
    clear hck hx
    by_cases hlt : k < n
    · obtain ⟨b, o, e, A', c', rfl, hb, ho, he, hc', hs', d0, d1, d2, d3, d4⟩ := Hs.out.ent hlt
      have hei := Hin.out e (List.mem_of_getElem? he)
      have He := Lib.hid he
      have Hei := Lib.hid hei
      have Hs' := Lib.hid hs'
      have i0 : (0 : Int) ≤ (k : Int) := by omega
      have i1 : (k : Int) < (n : Int) := by omega
      clear he hei hs'
      cases hm : mayE e
      · have Hf := Lib.hid (Hck.out.stop He.out (.inl hm))
        go_wp2_with fail
        refine wp_region_ext w Hx.out (by kernel_rfl) (by kernel_rfl) ?_
        have hcell := fun (y : XW w) => y.cell
        repeat (go_big_quiet_step ((go_at_call 11; exact ext_calls (ref_May e A' c' ok _ (Hs'.out.ext (XW.h _)) (Nat.le_of_lt Hei.out.p) (fun s hs => Nat.le_of_lt (Hei.out.i s hs))))))
        refine wpQuiet_nil ?_
        rintro _ ⟨y, rfl⟩
        clear hcell
        go_wp2_with fail
        go_ret
        exact ⟨by rw [Hf.out]; rfl, y.h⟩
      · obtain ⟨m1, m2, m3, m4, _, m6, _⟩ := mayE_parts hm
        have m2' : e.off ≤ 1099511627776 := by omega
        cases hsum : decide (e.sum = sumE x e)
        · have hne : e.sum ≠ sumE x e := of_decide_eq_false hsum
          have Hf := Lib.hid (Hck.out.stop He.out (.inr hne))
          have hb : (e.sum != sumE x e) = true := by simpa using hne
          have hb' : (e.sum == sumE x e) = false := by simpa using hne
          clear hsum
          go_wp2_with fail
          refine wp_region_ext w Hx.out (by kernel_rfl) (by kernel_rfl) ?_
          have hcell := fun (y : XW w) => y.cell
          repeat (go_big_quiet_step (first
            | (go_at_call 11; exact ext_calls (ref_May e A' c' ok _ (Hs'.out.ext (XW.h _)) (Nat.le_of_lt Hei.out.p) (fun s hs => Nat.le_of_lt (Hei.out.i s hs))))
            | (go_at_call 12; exact ext_calls (ref_Sum x e A' c' ok _ (Hs'.out.ext (XW.h _)) m6 Hei.out.p Hei.out.i m1 m2' m3 m4))))
          refine wpQuiet_nil ?_
          rintro _ ⟨y, rfl⟩
          clear hcell
          go_wp2_with fail
          go_ret
          exact ⟨by rw [Hf.out]; rfl, y.h⟩
        · have heq : e.sum = sumE x e := of_decide_eq_true hsum
          have Hf := Lib.hid (Hck.out.step He.out hm heq)
          have hb : (e.sum != sumE x e) = false := by simpa using heq
          have hb' : (e.sum == sumE x e) = true := by simpa using heq
          have Heq := Lib.hid heq
          clear hsum heq
          go_wp2_with fail
          refine wp_region_ext w Hx.out (by kernel_rfl) (by kernel_rfl) ?_
          have hcell := fun (y : XW w) => y.cell
          repeat (go_big_quiet_step (first
            | (go_at_call 11; exact ext_calls (ref_May e A' c' ok _ (Hs'.out.ext (XW.h _)) (Nat.le_of_lt Hei.out.p) (fun s hs => Nat.le_of_lt (Hei.out.i s hs))))
            | (go_at_call 12; exact ext_calls (ref_Sum x e A' c' ok _ (Hs'.out.ext (XW.h _)) m6 Hei.out.p Hei.out.i m1 m2' m3 m4))))
          refine wpQuiet_nil ?_
          rintro _ ⟨y, rfl⟩
          have hcell := y.cell
          go_wp2_with fail
          go_roundw
          case rel => exact ⟨k + 1, e.sum, hlt, by go_num, rfl, Hf.out, y.h⟩
          case measure => simp [intOf]; omega
    · obtain rfl : k = n := by omega
      have Hf := Lib.hid (show checkL seed es = k by have := Hck.out; rw [← Hl.out] at this ⊢; exact this.done)
      go_wp2
      go_ret
      exact ⟨by rw [Hf.out]; rfl, Hx.out⟩
end Go.Proofs.YtkfcbafmefdhmaaDoor
