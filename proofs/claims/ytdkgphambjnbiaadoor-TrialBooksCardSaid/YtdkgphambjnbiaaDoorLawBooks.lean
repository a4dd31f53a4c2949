/-
  What is proved here: the law TrialBooks returns true, whatever the trials and the person, and leaves old memory as it was. Conditions: no text is longer than a text can be.
-/
import Derived.Test.YtdkgphambjnbiaaDoorTrBooksP
namespace Go.Proofs.YtdkgphambjnbiaaDoor
open Go Go.RowKit Go.Proofs
attribute [local go_sem ↓] Go.wp_at_zero Go.wp_at_succ

theorem zero_s (w : World) : (zeroValue 9).run Tryd.prog w = .ok (.string ⟨#[]⟩) w := by kernel_rfl
theorem look_s {W : World} {m : Nat} {l : List (ByteArray × ByteArray)} (h : Mp (strK (P := Tryd.prog) (kt := 9) Tryd.underlying9) strV W m l) (name : ByteArray) (x : Option ByteArray) (hg : getM (fun a b : ByteArray => a == b) l name = x) :
    (Instr.lookup 64 (.map (some m)) (.string name) true).run Tryd.prog W = .ok (.tuple #[.string (x.getD ⟨#[]⟩), .bool x.isSome]) W := by
  have := h.look Tryd.underlying64 (zero_s W) name true
  rw [show getM ((strK (P := Tryd.prog) (kt := 9) Tryd.underlying9)).eq l name = x from hg] at this
  rw [show (Value.string name) = MK.of ((strK (P := Tryd.prog) (kt := 9) Tryd.underlying9)) name from rfl, this]
  cases x <;> rfl
theorem armT_getD (t : Tr) (person : ByteArray) : ((if inT t person then some (armT t person) else none : Option ByteArray).getD ⟨#[]⟩) = armT t person := by
  cases h : inT t person
  · rw [armT_out h]; rfl
  · rfl
theorem armT_some (t : Tr) (person : ByteArray) : (if inT t person then some (armT t person) else none : Option ByteArray).isSome = inT t person := by
  cases inT t person <;> rfl

set_option maxRecDepth 100000 in
set_option maxHeartbeats 4000000 in
theorem law_Books (person : ByteArray) (A : Option Addr) (n c : Nat) (l : List Tr) (ok : Nat → Prop) (w : World) (hs : Sl trR ok w A n l) (hn : n ≤ 140737488355328) (hwf : ∀ t ∈ l, TrWf t) (hok : ∀ k, ok k → k < w.heap.size) (hp : person.size ≤ 140737488355328) :
    Calls Tryd.prog 9 #[.slice A n c, .string person] w fun r w' => r = .returned (.bool true) ∧ Ext w w' := by
  have Hs := Lib.hid hs
  have Hl := Lib.hid hs.1
  have Hwf := Lib.hid hwf
  have Hok := Lib.hid hok
  have hnm : n ≤ maxLen := le_maxLen hn
  have hpm : person.size < maxLen := lt_maxLen hp
  clear hs hwf hok
  cases hf : fewTs l
  · go_enter Tryd.func9, Tryd.ntmps9
    go_wp2_with (first | (go_at_call 11; refine (law_lives _).mono ?_; rintro _ w1 ⟨rfl, hx1⟩; have Hx1 := Lib.hid hx1; clear hx1) | (go_at_call 12; refine (law_few A n c l ok _ (Hs.out.ext Hx1.out) hnm Hwf.out).mono ?_; rw [hf]; rintro _ w2 ⟨rfl, hx2⟩; have Hx2 := Lib.hid (Hx1.out.trans hx2); clear hx2))
    go_ret
    exact ⟨rfl, Hx2.out⟩
  by_cases h300 : 300 < person.size
  · go_enter Tryd.func9, Tryd.ntmps9
    go_wp2_with (first | (go_at_call 11; refine (law_lives _).mono ?_; rintro _ w1 ⟨rfl, hx1⟩; have Hx1 := Lib.hid hx1; clear hx1) | (go_at_call 12; refine (law_few A n c l ok _ (Hs.out.ext Hx1.out) hnm Hwf.out).mono ?_; rw [hf]; rintro _ w2 ⟨rfl, hx2⟩; have Hx2 := Lib.hid (Hx1.out.trans hx2); clear hx2))
    go_ret
    exact ⟨rfl, Hx2.out⟩
  have hn13 : n ≤ 13 := by
    have h1 := hf
    simp only [fewTs, Bool.and_eq_true, decide_eq_true_eq] at h1
    have := Hl.out; omega
  go_enter Tryd.func9, Tryd.ntmps9
  go_wp2_with (first | (go_at_call 11; refine (law_lives _).mono ?_; rintro _ w1 ⟨rfl, hx1⟩; have Hx1 := Lib.hid hx1; clear hx1) | (go_at_call 12; refine (law_few A n c l ok _ (Hs.out.ext Hx1.out) hnm Hwf.out).mono ?_; rw [hf]; rintro _ w2 ⟨rfl, hx2⟩; have Hx2 := Lib.hid (Hx1.out.trans hx2); clear hx2))
  refine (law_book A n c l ok _ (Hs.out.ext Hx2.out) (by omega) Hwf.out (fun k hk => Nat.lt_of_lt_of_le (Hok.out k hk) Hx2.out.size)).mono ?_
  rintro e w3 ⟨hx3, h3⟩
  have Hx3 := Lib.hid (Hx2.out.trans hx3)
  have HN := Lib.hid (fun (W : World) (h : Ext w W) => rf_New A n c l ok W (Hs.out.ext h) (by omega) Hwf.out)
  clear hx3
  cases hm : l.all mayT
  · rw [if_neg (by rw [hm]; decide)] at h3
    subst h3
    have Hv := Lib.hid (newT_bad hm)
    go_wp2_with (go_at_call 20; refine (HN.out _ Hx3.out).mono ?_; rw [Hv.out]; rintro _ w4 ⟨rfl, hx4⟩; have Hx4 := Lib.hid (Hx3.out.trans hx4); clear hx4)
    go_ret
    exact ⟨rfl, Hx4.out⟩
  · rw [if_pos hm] at h3
    cases hcl : clashT l
    · rw [if_neg (by rw [hcl]; decide)] at h3
      obtain ⟨b, m, lim, v, rfl, _, hbk⟩ := h3
      have Hbk := Lib.hid hbk
      have Hv := Lib.hid (newT_ok hm hcl)
      have Hcl := Lib.hid hcl
      clear hbk hcl
      go_wp2_with (first
        | (go_at_call 20; refine (HN.out _ Hx3.out).mono ?_; rw [Hv.out]; rintro _ w4 ⟨rfl, hx4⟩; have Hbk4 := Lib.hid (Hbk.out.ext hx4); have Hx4 := Lib.hid (Hx3.out.trans hx4); clear hx4)
        | (go_at_call 29; refine (bk_Arms b m lim v [] l (fun _ => []) person _ Hbk4.out (by have := Hl.out; omega) Hwf.out hpm).mono ?_; rintro _ w5 ⟨rfl, hmp5, hx5⟩; have Hmp5 := Lib.hid hmp5; have Hx5 := Lib.hid (Hx4.out.trans hx5); clear hmp5 hx5))
      obtain ⟨gm, hgm⟩ : ∃ gm, gm = w4.heap.size := ⟨_, rfl⟩
      rw [← hgm] at Hmp5 ⊢
      clear hgm
      go_loopw [9, 10] (fun q i wr => ∃ k : Nat, k ≤ n ∧ i = .int .i64 k ∧ q = .int .i64 ((l.take k).countP (fun t => inT t person) : Nat) ∧ Ext w5 wr) (fun _ i _ => n - (intOf i).toNat)
      case atStart => exact ⟨0, Nat.zero_le _, rfl, rfl, Keeps.refl _ _⟩
      case round =>
        obtain ⟨k, hk, rfl, rfl, hx⟩ := hrel
        have Hx := Lib.hid hx
        have hcnt : (l.take k).countP (fun t => inT t person) ≤ (l.take k).length := List.countP_le_length
        have hlk : (l.take k).length ≤ 13 := by rw [List.length_take]; omega
        obtain ⟨q, hq⟩ : ∃ q, q = (l.take k).countP (fun t => inT t person) := ⟨_, rfl⟩
        rw [← hq] at hcnt ⊢
        have Hq := Lib.hid hq
        clear hx hq
        by_cases hlt : k < n
        · obtain ⟨b2, o2, t, A', c', rfl, hb2, _, ht, hc', hs', d0, d1, d2, d3, d4⟩ := (Hs.out.ext (Hx5.out.trans Hx.out)).tr hlt
          have Ht := Lib.hid ht
          have Hs' := Lib.hid hs'
          have Hw := Lib.hid (Hwf.out t (List.mem_of_getElem? ht))
          have i0 : (0 : Int) ≤ (k : Int) := by omega
          have i1 : (k : Int) < (n : Int) := by omega
          have Hg := Lib.hid (armsM_get (person := person) Hcl.out ht)
          clear ht hs'
          go_wp2_with fail
          refine (rf_Arm t person A' c' ok _ Hs'.out Hw.out hpm).mono ?_
          rintro _ w6 ⟨rfl, hx6⟩
          have L6 := look_s ((Hmp5.out.ext Hx.out).ext hx6) t.name _ Hg.out
          rw [armT_getD, armT_some] at L6
          have e0 := (hx6.cell (p := ⟨b2, o2 + k * 5, none⟩) hb2 trivial).trans d0
          have Hx6 := Lib.hid (Hx.out.trans hx6)
          generalize armT t person = a at *
          cases hin : inT t person
          · have Hc := Lib.hid (show (l.take (k + 1)).countP (fun t => inT t person) = q by rw [List.take_add_one, Ht.out, List.countP_append, ← Hq.out]; simp [hin])
            rw [hin] at L6
            clear hx6
            go_wp2_with fail
            go_roundw
            case rel => exact ⟨k + 1, by omega, by go_num, by rw [Hc.out], Hx6.out⟩
            case measure => simp [intOf]; omega
          · have Hc := Lib.hid (show (l.take (k + 1)).countP (fun t => inT t person) = q + 1 by rw [List.take_add_one, Ht.out, List.countP_append, ← Hq.out]; simp [hin])
            rw [hin] at L6
            clear hx6
            go_wp2_with fail
            go_roundw
            case rel => exact ⟨k + 1, by omega, by go_num, by rw [Hc.out]; go_num, Hx6.out⟩
            case measure => simp [intOf]; omega
        · obtain rfl : k = n := by omega
          have hlen := (Hmp5.out.ext Hx.out).len Tryd.underlying64
          have hq2 : (armsM l person).length = q := by rw [armsM_len Hcl.out, Hq.out, List.take_of_length_le (Nat.le_of_eq Hl.out)]
          rw [hq2] at hlen
          clear hq2
          go_wp2_with fail
          go_ret
          exact ⟨by simp, Hx5.out.trans Hx.out⟩
    · rw [if_pos hcl] at h3
      subst h3
      have Hv := Lib.hid (newT_clash hm hcl)
      go_wp2_with (go_at_call 20; refine (HN.out _ Hx3.out).mono ?_; rw [Hv.out]; rintro _ w4 ⟨rfl, hx4⟩; have Hx4 := Lib.hid (Hx3.out.trans hx4); clear hx4)
      go_ret
      exact ⟨rfl, Hx4.out⟩
end Go.Proofs.YtdkgphambjnbiaaDoor
