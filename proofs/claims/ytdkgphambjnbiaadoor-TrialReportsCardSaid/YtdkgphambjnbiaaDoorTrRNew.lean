/-
  What is proved here: the document's New of trials returns newT. Conditions: at most a thousand trials, no text is longer than a text can be.
-/
import Derived.Test.YtdkgphambjnbiaaDoorTrArms
namespace Go.Proofs.YtdkgphambjnbiaaDoor
open Go Go.RowKit Go.Proofs
attribute [local go_sem ↓] Go.wp_at_zero Go.wp_at_succ

theorem newT_bad {l : List Tr} (h : l.all mayT = false) : newT l = 1 := by unfold newT; rw [if_neg (by rw [h]; decide)]
theorem newT_clash {l : List Tr} (h : l.all mayT = true) (hc : clashT l = true) : newT l = 7 := by unfold newT; rw [if_pos h, if_pos hc]
theorem newT_ok {l : List Tr} (h : l.all mayT = true) (hc : clashT l = false) : newT l = 0 := by unfold newT; rw [if_pos h, if_neg (by rw [hc]; decide)]

set_option maxRecDepth 100000 in
set_option maxHeartbeats 4000000 in
theorem rf_New (A : Option Addr) (n c : Nat) (l : List Tr) (ok : Nat → Prop) (w : World) (hs : Sl trR ok w A n l) (hn : n ≤ 1000) (hwf : ∀ t ∈ l, TrWf t) :
    Calls Tryd.prog 20 #[.slice A n c] w fun e w' => e = .returned (.int .i64 (newT l)) ∧ Ext w w' := by
  have Hs := Lib.hid hs
  have Hl := Lib.hid hs.1
  have Hwf := Lib.hid hwf
  clear hs hwf
  go_enter Tryd.func20, Tryd.ntmps20
  go_wp2_with fail
  go_loopw [3] (fun i wr => ∃ k : Nat, k ≤ n ∧ i = .int .i64 k ∧ (l.take k).all mayT = true ∧ Ext w wr) (fun i _ => n - (intOf i).toNat)
  case atStart => exact ⟨0, Nat.zero_le _, rfl, by simp, Keeps.refl _ _⟩
  case round =>
    obtain ⟨k, hk, rfl, hall, hx⟩ := hrel
    have Hall := Lib.hid hall
    have Hx := Lib.hid hx
    clear hall hx
    by_cases hlt : k < n
    · obtain ⟨b, o', t, A', c', rfl, hb, ho, ht, hc', hs', d0, d1, d2, d3, d4⟩ := (Hs.out.ext Hx.out).tr hlt
      have Ht := Lib.hid ht
      have Hs' := Lib.hid hs'
      have Hw := Lib.hid (Hwf.out t (List.mem_of_getElem? ht))
      have i0 : (0 : Int) ≤ (k : Int) := by omega
      have i1 : (k : Int) < (n : Int) := by omega
      clear ht hs'
      cases h7 : mayT t
      · have Hf := Lib.hid (newT_bad (all_bad Ht.out h7))
        go_wp2_with (go_at_call 17; refine (rf_May t A' c' ok _ Hs'.out Hw.out).mono ?_; rw [h7]; rintro _ w2 ⟨rfl, hx2⟩; have Hx2 := Lib.hid (Hx.out.trans hx2); clear hx2)
        go_ret
        exact ⟨by rw [Hf.out]; rfl, Hx2.out⟩
      · have Hst := Lib.hid (take_step Ht.out Hall.out h7)
        go_wp2_with (go_at_call 17; refine (rf_May t A' c' ok _ Hs'.out Hw.out).mono ?_; rw [h7]; rintro _ w2 ⟨rfl, hx2⟩; have Hx2 := Lib.hid (Hx.out.trans hx2); clear hx2)
        go_roundw
        case rel => exact ⟨k + 1, by omega, by go_num, Hst.out, Hx2.out⟩
        case measure => simp [intOf]; omega
    · obtain rfl : k = n := by omega
      have Hm := Lib.hid (all_full (l := l) (n := k) (by have := Hl.out; omega) Hall.out)
      clear Hall
      obtain ⟨W, hW⟩ : ∃ W, W = wr := ⟨_, rfl⟩
      rw [← hW] at Hx ⊢
      clear hW
      go_wp2_with fail
      go_loopw [4] (fun i wr => ∃ j : Nat, j ≤ k ∧ i = .int .i64 j ∧ (∀ q, q < j → clashB l q = false) ∧ Ext w wr) (fun i _ => k - (intOf i).toNat)
      case atStart => exact ⟨0, Nat.zero_le _, rfl, fun q hq => absurd hq (by omega), Hx.out⟩
      case round =>
        obtain ⟨j, hj, rfl, hno, hx⟩ := hrel
        have Hno := Lib.hid hno
        have Hx5 := Lib.hid hx
        clear hno hx
        by_cases hjl : j < k
        · obtain ⟨b, o, t, A', c', rfl, hb, ho, ht, hc', hs', d0, d1, d2, d3, d4⟩ := (Hs.out.ext Hx5.out).tr hjl
          have Ht := Lib.hid ht
          have i0 : (0 : Int) ≤ (j : Int) := by omega
          have i1 : (j : Int) < (k : Int) := by omega
          clear ht hs'
          go_wp2_with fail
          go_loopw [5] (fun i wr' => ∃ q m : Nat, q ≤ j ∧ i = .int .i64 q ∧ (l.take q).any (fun o => againstT o t) = false ∧ wr' = wr.drewN m) (fun i _ => j - (intOf i).toNat)
          case atStart => exact ⟨0, 0, Nat.zero_le _, rfl, by simp, rfl⟩
          case round =>
            obtain ⟨q, m, hq, rfl, hany, rfl⟩ := hrel
            have Hany := Lib.hid hany
            clear hany
            by_cases hql : q < j
            · obtain ⟨b2, o2, u, A2, c2, e2, hb2, ho2, hu, hc2, hs2, f0, f1, f2, f3, f4⟩ := (Hs.out.ext Hx5.out).tr (show q < k by omega)
              have e3 := Option.some.inj e2
              injection e3 with e4 e5
              subst e4 e5
              have Hu := Lib.hid hu
              have j0 : (0 : Int) ≤ (q : Int) := by omega
              have j1 : (q : Int) < (k : Int) := by omega
              have j2 : (q : Int) < (j : Int) := by omega
              clear hu hs2 e2
              cases h1 : (u.name == t.name) <;> have h1' := h1 <;> rw [beq_bytes_comm, beq_toListBytes] at h1'
              · cases h2 : (u.layer == t.layer) <;> have h2' := h2 <;> rw [beq_bytes_comm, beq_toListBytes] at h2'
                · skip
                  have Hst := Lib.hid (anyT_step Hu.out Hany.out (show againstT u t = false by unfold againstT; rw [h1, h2]; rfl))
                  go_wp2_with fail
                  go_quiet (fail)
                  go_wp2_with fail
                  go_roundw
                  case rel => exact ⟨q + 1, _, by omega, by go_num, Hst.out, rfl⟩
                  case measure => simp [intOf]; omega
                · cases h3 : decide (t.lo < u.hi)
                  · skip
                    have Hst := Lib.hid (anyT_step Hu.out Hany.out (show againstT u t = false by unfold againstT; rw [h1, h2, h3, Bool.and_false]; rfl))
                    go_wp2_with fail
                    go_quiet (fail)
                    go_wp2_with fail
                    go_roundw
                    case rel => exact ⟨q + 1, _, by omega, by go_num, Hst.out, rfl⟩
                    case measure => simp [intOf]; omega
                  · cases h4 : decide (u.lo < t.hi)
                    · skip
                      have Hst := Lib.hid (anyT_step Hu.out Hany.out (show againstT u t = false by unfold againstT; rw [h1, h2, h4]; rfl))
                      go_wp2_with fail
                      go_quiet (fail)
                      go_wp2_with fail
                      go_roundw
                      case rel => exact ⟨q + 1, _, by omega, by go_num, Hst.out, rfl⟩
                      case measure => simp [intOf]; omega
                    · skip
                      have Hf := Lib.hid (newT_clash Hm.out (clashT_yes Ht.out (List.any_eq_true.2 ⟨u, List.mem_of_getElem? (show (l.take j)[q]? = some u by rw [List.getElem?_take_of_lt hql]; exact Hu.out), show againstT u t = true by unfold againstT; rw [h1, h2, h3, h4]; rfl⟩)))
                      go_wp2_with fail
                      go_quiet (fail)
                      go_wp2_with fail
                      go_ret
                      exact ⟨by rw [Hf.out]; rfl, (Hx5.out.drewN _).drewN _⟩
              · skip
                have Hf := Lib.hid (newT_clash Hm.out (clashT_yes Ht.out (List.any_eq_true.2 ⟨u, List.mem_of_getElem? (show (l.take j)[q]? = some u by rw [List.getElem?_take_of_lt hql]; exact Hu.out), show againstT u t = true by unfold againstT; rw [h1]; rfl⟩)))
                go_wp2_with fail
                go_quiet (fail)
                go_wp2_with fail
                go_ret
                exact ⟨by rw [Hf.out]; rfl, (Hx5.out.drewN _).drewN _⟩
            · obtain rfl : q = j := by omega
              have Hcl := Lib.hid (show clashB l q = false by simp only [clashB, Ht.out]; exact Hany.out)
              have Hno2 := Lib.hid (show ∀ p, p < q + 1 → clashB l p = false from fun p hp => by
                rcases Nat.lt_or_ge p q with h | h
                · exact Hno.out p h
                · obtain rfl : p = q := by omega
                  exact Hcl.out)
              go_wp2_with fail
              go_roundw
              case rel => exact ⟨q + 1, by omega, by go_num, Hno2.out, Hx5.out.drewN _⟩
              case measure => simp [intOf]; omega
        · obtain rfl : j = k := by omega
          have Hf := Lib.hid (newT_ok Hm.out (clashT_no (l := l) (fun q hq => Hno.out q (by have := Hl.out; omega))))
          go_wp2_with fail
          go_ret
          exact ⟨by rw [Hf.out]; rfl, Hx5.out⟩
end Go.Proofs.YtdkgphambjnbiaaDoor
