/-
  What is proved here: the document's May of a trial returns mayT. Conditions: no text is longer than a text can be.
-/
import Derived.Test.YtdkgphambjnbiaaDoorTrMay
namespace Go.Proofs.YtdkgphambjnbiaaDoor
open Go Go.RowKit Go.Proofs
attribute [local go_sem ↓] Go.wp_at_zero Go.wp_at_succ

set_option maxRecDepth 100000 in
set_option maxHeartbeats 4000000 in
theorem rf_May (t : Tr) (A : Option Addr) (c : Nat) (ok : Nat → Prop) (w : World) (hs : Sl strR ok w A t.arms.length t.arms) (hwf : TrWf t) :
    Calls Tryd.prog 17 #[.agg #[.string t.name, .string t.layer, .int .i64 t.lo, .int .i64 t.hi, .slice A t.arms.length c]] w fun r w' => r = .returned (.bool (mayT t)) ∧ Ext w w' := by
  have hx : ∀ o, Ext w (w.alloc o) := fun o => (Keeps.refl _ _).alloc o
  have Hx := Lib.hid hx
  have Hwf := Lib.hid hwf
  have hp1 := le_maxLen hwf.name
  have hp2 := le_maxLen hwf.layer
  have hn := hwf.n
  clear hx hwf
  cases h1 : nameB t.name
  · have Hf := Lib.hid (mayT_no1 h1)
    go_enter Tryd.func17, Tryd.ntmps17
    go_wp2_with (first | (go_at_call 36; with_reducible refine (ref_Name _ _ hp1).mono ?_; rintro _ w' ⟨rfl, rfl⟩) | (go_at_call 36; with_reducible refine (ref_Name _ _ hp2).mono ?_; rintro _ w' ⟨rfl, rfl⟩))
    go_ret
    exact ⟨by rw [Hf.out]; rfl, Hx.out _⟩
  cases h2 : nameB t.layer
  · have Hf := Lib.hid (mayT_no2 h2)
    go_enter Tryd.func17, Tryd.ntmps17
    go_wp2_with (first | (go_at_call 36; with_reducible refine (ref_Name _ _ hp1).mono ?_; rintro _ w' ⟨rfl, rfl⟩) | (go_at_call 36; with_reducible refine (ref_Name _ _ hp2).mono ?_; rintro _ w' ⟨rfl, rfl⟩))
    go_ret
    exact ⟨by rw [Hf.out]; rfl, Hx.out _⟩
  by_cases h3 : t.lo < 0
  · have Hf := Lib.hid (mayT_no3 (.inl h3))
    go_enter Tryd.func17, Tryd.ntmps17
    go_wp2_with (first | (go_at_call 36; with_reducible refine (ref_Name _ _ hp1).mono ?_; rintro _ w' ⟨rfl, rfl⟩) | (go_at_call 36; with_reducible refine (ref_Name _ _ hp2).mono ?_; rintro _ w' ⟨rfl, rfl⟩))
    go_ret
    exact ⟨by rw [Hf.out]; rfl, Hx.out _⟩
  by_cases h4 : t.hi ≤ t.lo
  · have Hf := Lib.hid (mayT_no3 (.inr (.inl h4)))
    go_enter Tryd.func17, Tryd.ntmps17
    go_wp2_with (first | (go_at_call 36; with_reducible refine (ref_Name _ _ hp1).mono ?_; rintro _ w' ⟨rfl, rfl⟩) | (go_at_call 36; with_reducible refine (ref_Name _ _ hp2).mono ?_; rintro _ w' ⟨rfl, rfl⟩))
    go_ret
    exact ⟨by rw [Hf.out]; rfl, Hx.out _⟩
  by_cases h5 : 1000 < t.hi
  · have Hf := Lib.hid (mayT_no3 (.inr (.inr h5)))
    go_enter Tryd.func17, Tryd.ntmps17
    go_wp2_with (first | (go_at_call 36; with_reducible refine (ref_Name _ _ hp1).mono ?_; rintro _ w' ⟨rfl, rfl⟩) | (go_at_call 36; with_reducible refine (ref_Name _ _ hp2).mono ?_; rintro _ w' ⟨rfl, rfl⟩))
    go_ret
    exact ⟨by rw [Hf.out]; rfl, Hx.out _⟩
  by_cases h6 : t.arms.length < 1
  · have Hf := Lib.hid (mayT_no4 (.inl h6))
    go_enter Tryd.func17, Tryd.ntmps17
    go_wp2_with (first | (go_at_call 36; with_reducible refine (ref_Name _ _ hp1).mono ?_; rintro _ w' ⟨rfl, rfl⟩) | (go_at_call 36; with_reducible refine (ref_Name _ _ hp2).mono ?_; rintro _ w' ⟨rfl, rfl⟩))
    go_ret
    exact ⟨by rw [Hf.out]; rfl, Hx.out _⟩
  by_cases h7 : 16 < t.arms.length
  · have Hf := Lib.hid (mayT_no4 (.inr h7))
    go_enter Tryd.func17, Tryd.ntmps17
    go_wp2_with (first | (go_at_call 36; with_reducible refine (ref_Name _ _ hp1).mono ?_; rintro _ w' ⟨rfl, rfl⟩) | (go_at_call 36; with_reducible refine (ref_Name _ _ hp2).mono ?_; rintro _ w' ⟨rfl, rfl⟩))
    go_ret
    exact ⟨by rw [Hf.out]; rfl, Hx.out _⟩
  have Hf := Lib.hid (mayT_mid h1 h2 (by omega) (by omega) (by omega) (by omega) (by omega))
  have Hs := Lib.hid hs
  have h4' : t.lo < t.hi := by omega
  clear hs
  go_enter Tryd.func17, Tryd.ntmps17
  go_wp2_with (first | (go_at_call 36; with_reducible refine (ref_Name _ _ hp1).mono ?_; rintro _ w' ⟨rfl, rfl⟩) | (go_at_call 36; with_reducible refine (ref_Name _ _ hp2).mono ?_; rintro _ w' ⟨rfl, rfl⟩))
  go_loopw [3] (fun i wr => ∃ k : Nat, k ≤ t.arms.length ∧ i = .int .i64 k ∧ armsAt t.arms k ∧ Ext w wr ∧ wr.heap[w.heap.size]? = some (.cells #[.string t.name, .string t.layer, .int .i64 t.lo, .int .i64 t.hi, .slice A t.arms.length c] 24)) (fun i _ => t.arms.length - (intOf i).toNat)
  case atStart => exact ⟨0, Nat.zero_le _, rfl, fun i hi => absurd hi (by omega), Hx.out _, blk_new _ _⟩
  case round =>
    obtain ⟨k, hk, rfl, hall, hxr, hbr⟩ := hrel
    have Hall := Lib.hid hall
    have Hxr := Lib.hid hxr
    have r4 := blk_cell hbr 4 rfl
    have Hbr := Lib.hid hbr
    clear hall hxr hbr
    by_cases hlt : k < t.arms.length
    · have hs2 := Hs.out.ext Hxr.out
      obtain ⟨b, o, s, rfl, hb, ho, hs1, hc1⟩ := hs2.str hlt
      have hsz := le_maxLen (Hwf.out.i s (List.mem_of_getElem? hs1))
      have Hs1 := Lib.hid hs1
      have Hs2 := Lib.hid hs2
      have i0 : (0 : Int) ≤ (k : Int) := by omega
      have i1 : (k : Int) < (t.arms.length : Int) := by omega
      clear hs1 hs2
      cases h8 : nameB s
      · have Hg := Lib.hid (armsOk_no hlt (armOk_name Hs1.out h8))
        go_wp2_with (go_at_call 36; refine (ref_Name _ _ hsz).mono ?_; rintro _ w' ⟨rfl, rfl⟩)
        go_ret
        exact ⟨by rw [Hf.out, Hg.out]; rfl, Hxr.out⟩
      · go_wp2_with (go_at_call 36; refine (ref_Name _ _ hsz).mono ?_; rintro _ w' ⟨rfl, rfl⟩)
        go_loopw [4] (fun i wr' => ∃ j m : Nat, j ≤ k ∧ i = .int .i64 j ∧ (t.arms.take j).any (fun y => s == y) = false ∧ wr' = wr.drewN m) (fun i _ => k - (intOf i).toNat)
        case atStart => exact ⟨0, 0, Nat.zero_le _, rfl, by simp, rfl⟩
        case round =>
          obtain ⟨j, m, hj, rfl, hany, rfl⟩ := hrel
          have Hany := Lib.hid hany
          clear hany
          by_cases hjl : j < k
          · obtain ⟨b2, o2, s2, e2, hb2, ho2, hs2, hc2⟩ := Hs2.out.str (show j < t.arms.length by omega)
            have e3 := Option.some.inj e2
            injection e3 with e4 e5
            subst e4 e5
            have j0 : (0 : Int) ≤ (j : Int) := by omega
            have j1 : (j : Int) < (k : Int) := by omega
            have j2 : (j : Int) < (t.arms.length : Int) := by omega
            have Hs3 := Lib.hid hs2
            clear hs2 e2
            cases h9 : (s == s2) <;> have h9' := h9 <;> rw [beq_bytes_comm, beq_toListBytes] at h9'
            · have Ht := Lib.hid (any_step Hs3.out Hany.out h9)
              go_wp2_with fail
              go_quiet (fail)
              go_wp2_with fail
              go_roundw
              case rel => exact ⟨j + 1, _, by omega, by go_num, Ht.out, rfl⟩
              case measure => simp [intOf]; omega
            · have Hg := Lib.hid (armsOk_no hlt (armOk_in Hs1.out (any_hit (l := t.arms.take k) (by rw [List.getElem?_take_of_lt hjl]; exact Hs3.out) h9)))
              go_wp2_with fail
              go_quiet (fail)
              go_wp2_with fail
              go_ret
              exact ⟨by rw [Hf.out, Hg.out]; rfl, (Hxr.out.drewN _).drewN _⟩
          · obtain rfl : j = k := by omega
            have Ht := Lib.hid (armsAt_step Hall.out (armOk_yes Hs1.out h8 Hany.out))
            go_wp2_with fail
            go_roundw
            case rel => exact ⟨j + 1, by omega, by go_num, Ht.out, Hxr.out.drewN _, Hbr.out⟩
            case measure => simp [intOf]; omega
    · have Hg := Lib.hid (armsOk_yes Hall.out (by omega))
      go_wp2_with fail
      go_ret
      exact ⟨by rw [Hf.out, Hg.out]; rfl, Hxr.out⟩
end Go.Proofs.YtdkgphambjnbiaaDoor
