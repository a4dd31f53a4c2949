/-
  What is proved here: the law's to and few. Conditions: no text is longer than a text can be.
-/
import Derived.Test.YtdkgphambjnbiaaDoorTrArm
import Derived.IntWalk
namespace Go.Proofs.YtdkgphambjnbiaaDoor
open Go Go.RowKit Go.Proofs
attribute [local go_sem ↓] Go.wp_at_zero Go.wp_at_succ

set_option maxHeartbeats 2000000 in
theorem law_to (t : Tr) (A : Option Addr) (c : Nat) (w : World) :
    Calls Tryd.prog 13 #[.agg #[.string t.name, .string t.layer, .int .i64 t.lo, .int .i64 t.hi, .slice A t.arms.length c]] w fun r w' => r = .returned (.agg #[.string t.name, .string t.layer, .int .i64 t.lo, .int .i64 t.hi, .slice A t.arms.length c]) ∧ Ext w w' := by
  go_enter Tryd.func13, Tryd.ntmps13
  go_wp2_with fail
  refine bodyPost_ret (v := .agg #[.string t.name, .string t.layer, .int .i64 t.lo, .int .i64 t.hi, .slice A t.arms.length c]) (by simp [results, Tryd.results13, go_sem]) rfl ⟨rfl, ?_⟩
  repeat (first | with_reducible exact Keeps.refl _ _ | with_reducible exact Keeps.refl _ _ | with_reducible refine Keeps.drew ?_ | with_reducible refine Keeps.drewN ?_ _ | with_reducible refine Keeps.alloc ?_ _ | with_reducible refine Keeps.setCell ?_ (by first | (intro h; simp at h; done) | (intro _; simp; done) | (intro _; simp; omega) | (intro h; simp at h; omega)) _)

def fewT (t : Tr) : Bool := decide (t.name.size + t.layer.size ≤ 300) && decide (t.arms.length ≤ 20) && t.arms.all fun s => decide (s.size ≤ 100)
def fewTs (l : List Tr) : Bool := decide (l.length ≤ 13) && l.all fewT
theorem fewTs_not {l : List Tr} {k : Nat} {t : Tr} (h : l[k]? = some t) (hf : fewT t = false) : fewTs l = false := by
  unfold fewTs; rw [all_bad h hf]; simp
theorem fewTs_long {l : List Tr} (h : 13 < l.length) : fewTs l = false := by
  have : decide (l.length ≤ 13) = false := by simp; omega
  simp [fewTs, this]
theorem fewT_name {t : Tr} (h : 300 < t.name.size + t.layer.size) : fewT t = false := by
  have : decide (t.name.size + t.layer.size ≤ 300) = false := by simp; omega
  simp [fewT, this]
theorem fewT_arms {t : Tr} (h : 20 < t.arms.length) : fewT t = false := by
  have : decide (t.arms.length ≤ 20) = false := by simp; omega
  simp [fewT, this]
theorem fewT_arm {t : Tr} {k : Nat} {s : ByteArray} (h : t.arms[k]? = some s) (hs : 100 < s.size) : fewT t = false := by
  have h1 : t.arms.all (fun s => decide (s.size ≤ 100)) = false := all_bad h (by simp; omega)
  simp only [fewT, h1, Bool.and_false]
theorem fewT_yes {t : Tr} (h1 : t.name.size + t.layer.size ≤ 300) (h2 : t.arms.length ≤ 20) (h3 : t.arms.all (fun s => decide (s.size ≤ 100)) = true) : fewT t = true := by
  simp only [fewT, h3]; simp; omega
structure FewParts (t : Tr) : Prop where
  name : t.name.size + t.layer.size ≤ 300
  n : t.arms.length ≤ 20
  i : ∀ s ∈ t.arms, s.size ≤ 100
theorem fewT_parts {t : Tr} (h : fewT t = true) : FewParts t := by
  simp only [fewT, Bool.and_eq_true, decide_eq_true_eq, List.all_eq_true] at h
  exact ⟨h.1.1, h.1.2, h.2⟩
theorem FewParts.wf {t : Tr} (h : FewParts t) : TrWf t := ⟨by have := h.name; omega, by have := h.name; omega, by have := h.n; omega, fun s hs => by have := h.i s hs; omega⟩

set_option maxRecDepth 100000 in
set_option maxHeartbeats 4000000 in
theorem law_few (A : Option Addr) (n c : Nat) (l : List Tr) (ok : Nat → Prop) (w : World) (hs : Sl trR ok w A n l) (hn : n ≤ maxLen) (hwf : ∀ t ∈ l, TrWf t) :
    Calls Tryd.prog 12 #[.slice A n c] w fun e w' => e = .returned (.bool (fewTs l)) ∧ Ext w w' := by
  unfold maxLen at hn
  have Hs := Lib.hid hs
  have Hl := Lib.hid hs.1
  have Hwf := Lib.hid hwf
  clear hs hwf
  go_enter Tryd.func12, Tryd.ntmps12
  go_wp2_with fail
  go_loopw [3] (fun i wr => ∃ (k : Nat), k ≤ n ∧ i = .int .i64 k ∧ (l.take k).all fewT = true ∧ k ≤ 13 ∧ Ext w wr) (fun i _ => n - (intOf i).toNat)
  case atStart => exact ⟨0, Nat.zero_le _, rfl, by simp, by omega, Keeps.refl _ _⟩
  case round =>
    obtain ⟨k, hk, rfl, hall, hk13, hx⟩ := hrel
    have Hall := Lib.hid hall
    have Hx := Lib.hid hx
    clear hall hx
    by_cases hlt : k < n
    · obtain ⟨b, o, t, A', c', rfl, hb, ho, ht, hc', hs', d0, d1, d2, d3, d4⟩ := (Hs.out.ext Hx.out).tr hlt
      have hw := Hwf.out t (List.mem_of_getElem? ht)
      have w1 := hw.name
      have w2 := hw.layer
      have w3 := hw.n
      have Ht := Lib.hid ht
      have Hs' := Lib.hid hs'
      have i0 : (0 : Int) ≤ (k : Int) := by omega
      have i1 : (k : Int) < (n : Int) := by omega
      clear ht hs' hw
      by_cases h12 : 12 < k
      · have Hf := Lib.hid (fewTs_long (l := l) (by have := Hl.out; omega))
        have e1 : decide ((12 : Int) < (k : Int)) = true := by simp; omega
        go_wp2_with fail
        go_quiet (fail)
        go_wp2_with fail
        go_ret
        exact ⟨by rw [Hf.out]; rfl, Hx.out.drewN _⟩
      have e1 : decide ((12 : Int) < (k : Int)) = false := by simp; omega
      have ew : IntKind.i64.wrap ((t.name.size : Int) + (t.layer.size : Int)) = (t.name.size : Int) + (t.layer.size : Int) := IntWalk.i64_in _ (by omega)
      by_cases h300 : 300 < t.name.size + t.layer.size
      · have Hf := Lib.hid (fewTs_not Ht.out (fewT_name h300))
        have e2 : decide ((300 : Int) < IntKind.i64.wrap ((t.name.size : Int) + (t.layer.size : Int))) = true := by rw [ew]; simp; omega
        clear ew
        go_wp2_with fail
        go_quiet (fail)
        clear e2
        go_wp2_with fail
        go_ret
        exact ⟨by rw [Hf.out]; rfl, Hx.out.drewN _⟩
      have e2 : decide ((300 : Int) < IntKind.i64.wrap ((t.name.size : Int) + (t.layer.size : Int))) = false := by rw [ew]; simp; omega
      clear ew
      by_cases h20 : 20 < t.arms.length
      · have Hf := Lib.hid (fewTs_not Ht.out (fewT_arms h20))
        have e3 : decide ((20 : Int) < (t.arms.length : Int)) = true := by simp; omega
        go_wp2_with fail
        go_quiet (fail)
        clear e2
        go_wp2_with fail
        go_ret
        exact ⟨by rw [Hf.out]; rfl, Hx.out.drewN _⟩
      have e3 : decide ((20 : Int) < (t.arms.length : Int)) = false := by simp; omega
      go_wp2_with fail
      go_quiet (fail)
      clear e2
      go_wp2_with fail
      go_loopw [4] (fun i wr' => ∃ j : Nat, j ≤ t.arms.length ∧ i = .int .i64 j ∧ (t.arms.take j).all (fun s => decide (s.size ≤ 100)) = true ∧ wr' = wr.drewN nq) (fun i _ => t.arms.length - (intOf i).toNat)
      case atStart => exact ⟨0, Nat.zero_le _, rfl, by simp, rfl⟩
      case round =>
        obtain ⟨j, hj, rfl, hjall, rfl⟩ := hrel
        have Hjall := Lib.hid hjall
        clear hjall
        by_cases hjl : j < t.arms.length
        · obtain ⟨b2, o2, s, rfl, hb2, ho2, hs2, hc2⟩ := Hs'.out.str hjl
          have hsz := (Hwf.out t (List.mem_of_getElem? Ht.out)).i s (List.mem_of_getElem? hs2)
          have j0 : (0 : Int) ≤ (j : Int) := by omega
          have j1 : (j : Int) < (t.arms.length : Int) := by omega
          have Hs2 := Lib.hid hs2
          clear hs2
          by_cases h100 : 100 < s.size
          · have Hf := Lib.hid (fewTs_not Ht.out (fewT_arm Hs2.out h100))
            go_wp2_with fail
            go_ret
            exact ⟨by rw [Hf.out]; rfl, Hx.out.drewN _⟩
          · have Hst := Lib.hid (take_step (p := fun s : ByteArray => decide (s.size ≤ 100)) Hs2.out Hjall.out (by simp; omega))
            go_wp2_with fail
            go_roundw
            case rel => exact ⟨j + 1, hjl, by go_num, Hst.out, trivial⟩
            case measure => simp [intOf]; omega
        · have Hst := Lib.hid (take_step Ht.out Hall.out (fewT_yes (by omega) (by omega) (all_full (n := j) (by omega) Hjall.out)))
          go_wp2_with fail
          go_roundw
          case rel => exact ⟨k + 1, hlt, by go_num, Hst.out, by omega, Hx.out.drewN _⟩
          case measure => simp [intOf]; omega
    · have Hf := Lib.hid (show fewTs l = true by
        have h1 := all_full (l := l) (n := k) (by have := Hl.out; omega) Hall.out
        have h2 : decide (l.length ≤ 13) = true := by have := Hl.out; simp; omega
        unfold fewTs; rw [h1, h2]; rfl)
      go_wp2_with fail
      go_ret
      exact ⟨by rw [Hf.out]; rfl, Hx.out⟩
end Go.Proofs.YtdkgphambjnbiaaDoor
