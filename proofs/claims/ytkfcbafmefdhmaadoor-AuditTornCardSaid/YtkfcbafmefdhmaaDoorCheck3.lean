/-
  What is proved here: audit.Check returns checkL, as the document's Check does. Conditions: at most a million entries, in range; the table of powers is laid.
-/
import Derived.Test.YtkfcbafmefdhmaaDoorCheck2
import Derived.Test.YtkfcbafmefdhmaaDoorEnt6
namespace Go.Proofs.YtkfcbafmefdhmaaDoor
open Go Go.RowKit Go.Proofs
attribute [local go_sem ↓] Go.wp_at_zero Go.wp_at_succ

set_option maxRecDepth 100000 in
set_option maxHeartbeats 4000000 in
theorem aud_Check (seed : Int) (A : Option Addr) (n c : Nat) (es : List Ent) (ok : Nat → Prop) (w : World) (hs : Sl entR ok w A n es) (hn : n ≤ 1000000) (hin : ∀ e ∈ es, EntIn e) (hpow : Pow w) :
    Calls Tryd.prog 19 #[.int .u64 seed, .slice A n c] w fun e w' => e = .returned (.int .i64 (checkL seed es)) ∧ Ext w w' := by
  have Hs := Lib.hid hs
  have Hin := Lib.hid hin
  have Hl := Lib.hid hs.1
  have Hpow := Lib.hid hpow
  clear hs hin hpow
  go_enter Tryd.func19, Tryd.ntmps19
  go_wp2_with fail
  go_loopw [5, 11] (fun a i wr => ∃ (k : Nat) (x : Int), k ≤ n ∧ i = .int .i64 k ∧ a = .int .u64 x ∧ CheckAt seed es k x ∧ Ext w wr) (fun _ i _ => n - (intOf i).toNat)
  case atStart => exact ⟨0, seed, Nat.zero_le _, rfl, rfl, CheckAt.start _ _, Keeps.refl _ _⟩
  case round =>
    obtain ⟨k, x, hk, rfl, rfl, hck, hx⟩ := hrel
    have Hck := Lib.hid hck
    have Hx := Lib.hid hx
    by_cases hlt : k < n
    · obtain ⟨b, o, e, A', c', rfl, hb, ho, he, hc', hs', d0, d1, d2, d3, d4⟩ := (Hs.out.ext hx).ent hlt
      have hei := Hin.out e (List.mem_of_getElem? he)
      have He := Lib.hid he
      have Hei := Lib.hid hei
      have Hs' := Lib.hid hs'
      have i0 : (0 : Int) ≤ (k : Int) := by omega
      have i1 : (k : Int) < (n : Int) := by omega
      clear he hei hs' hck hx
      cases hm : mayE e
      · have Hf := Lib.hid (Hck.out.stop He.out (.inl hm))
        go_wp2_with fail
        clear d0 d1 d2 d3 d4
        refine wp_region_ext _ (Keeps.refl _ _) (by kernel_rfl) (by kernel_rfl) ?_
        have hcell := fun (o : Obj) (y : XW (wr.alloc o)) => y.cell
        repeat (go_big_quiet_step ((go_at_call 28; exact ext_calls (aud_may e A' c' _ _ ((Hs'.out.alloc _).ext (XW.h _)) Hei.out.n (Nat.le_of_lt Hei.out.p) (fun s hs => Nat.le_of_lt (Hei.out.i s hs))))))
        refine wpQuiet_nil ?_
        rintro _ ⟨y, rfl⟩
        clear hcell
        go_wp2_with fail
        go_ret
        exact ⟨by rw [Hf.out]; rfl, (Hx.out.alloc _).trans y.h⟩
      · obtain ⟨m1, m2, m3, m4, _, m6, _⟩ := mayE_parts hm
        have m2' : e.off ≤ 1099511627776 := by omega
        cases hsum : decide (e.sum = sumE x e)
        · have hne : e.sum ≠ sumE x e := of_decide_eq_false hsum
          have Hf := Lib.hid (Hck.out.stop He.out (.inr hne))
          have hb : (e.sum != sumE x e) = true := by simpa using hne
          have hb' : (e.sum == sumE x e) = false := by simpa using hne
          clear hsum
          go_wp2_with fail
          clear d0 d1 d2 d3 d4
          refine wp_region_ext _ (Keeps.refl _ _) (by kernel_rfl) (by kernel_rfl) ?_
          have hcell := fun (o : Obj) (y : XW (wr.alloc o)) => y.cell
          repeat (go_big_quiet_step (first
            | (go_at_call 28; exact ext_calls (aud_may e A' c' _ _ ((Hs'.out.alloc _).ext (XW.h _)) Hei.out.n (Nat.le_of_lt Hei.out.p) (fun s hs => Nat.le_of_lt (Hei.out.i s hs))))
            | (go_at_call 29; exact ext_calls (aud_sum x e A' c' _ _ ((Hs'.out.alloc _).ext (XW.h _)) m6 Hei.out.p Hei.out.i m1 m2' m3 m4 (Hpow.out.ext ((Hx.out.alloc _).trans (XW.h _)))))))
          refine wpQuiet_nil ?_
          rintro _ ⟨y, rfl⟩
          clear hcell
          go_wp2_with fail
          go_ret
          exact ⟨by rw [Hf.out]; rfl, (Hx.out.alloc _).trans y.h⟩
        · have heq : e.sum = sumE x e := of_decide_eq_true hsum
          have Hf := Lib.hid (Hck.out.step He.out hm heq)
          have hb : (e.sum != sumE x e) = false := by simpa using heq
          have hb' : (e.sum == sumE x e) = true := by simpa using heq
          have Heq := Lib.hid heq
          clear hsum heq
          go_wp2_with fail
          clear d0 d1 d2 d3 d4
          refine wp_region_ext _ (Keeps.refl _ _) (by kernel_rfl) (by kernel_rfl) ?_
          have hcell := fun (o : Obj) (y : XW (wr.alloc o)) => y.cell
          repeat (go_big_quiet_step (first
            | (go_at_call 28; exact ext_calls (aud_may e A' c' _ _ ((Hs'.out.alloc _).ext (XW.h _)) Hei.out.n (Nat.le_of_lt Hei.out.p) (fun s hs => Nat.le_of_lt (Hei.out.i s hs))))
            | (go_at_call 29; exact ext_calls (aud_sum x e A' c' _ _ ((Hs'.out.alloc _).ext (XW.h _)) m6 Hei.out.p Hei.out.i m1 m2' m3 m4 (Hpow.out.ext ((Hx.out.alloc _).trans (XW.h _)))))))
          refine wpQuiet_nil ?_
          rintro _ ⟨y, rfl⟩
          have hcell := y.cell
          go_wp2_with fail
          go_roundw
          case rel => exact ⟨k + 1, e.sum, hlt, by go_num, rfl, Hf.out, (Hx.out.alloc _).trans y.h⟩
          case measure => simp [intOf]; omega
    · obtain rfl : k = n := by omega
      have Hf := Lib.hid (show checkL seed es = k by have := Hck.out; rw [← Hl.out] at this ⊢; exact this.done)
      clear hck hx
      go_wp2
      go_ret
      exact ⟨by rw [Hf.out]; rfl, Hx.out⟩
end Go.Proofs.YtkfcbafmefdhmaaDoor
