/-
  What is proved here: the law's book of trials is the program's. Conditions: at most a thousand trials, no text is longer than a text can be; what they lead to is older than the call.
-/
import Derived.Test.YtdkgphambjnbiaaDoorLawSplits
namespace Go.Proofs.YtdkgphambjnbiaaDoor
open Go Go.RowKit Go.Proofs
attribute [local go_sem ↓] Go.wp_at_zero Go.wp_at_succ

def NewAll (l : List Tr) (w : World) (e : Ending) (w' : World) : Prop :=
  Ext w w' ∧ if l.all mayT then (if clashT l then e = .returned (.tuple #[.pointer none, .int .i64 7]) else ∃ b m lim v, e = .returned (.tuple #[.pointer (some ⟨b, 0, none⟩), .int .i64 0]) ∧ w.heap.size ≤ m ∧ BookX w' b m lim v [] l (fun _ => [])) else e = .returned (.tuple #[.pointer none, .int .i64 1])
theorem new_all (A : Option Addr) (n c : Nat) (l : List Tr) (ok : Nat → Prop) (w : World) (hs : Sl trR ok w A n l) (hn : n ≤ 1000) (hwf : ∀ t ∈ l, TrWf t) :
    Calls Tryd.prog 27 #[.slice A n c] w (NewAll l w) := by
  cases hm : l.all mayT
  · exact (new_bad A n c l ok w hs hn hwf hm).mono fun _ _ ⟨h1, h2⟩ => ⟨h2, by rw [if_neg (by rw [hm]; decide)]; exact h1⟩
  · exact (new_may A n c l ok w hs hn hwf hm).mono fun _ _ ⟨h1, h2⟩ => ⟨h1, by rw [if_pos hm]; exact h2⟩

set_option maxRecDepth 100000 in
set_option maxHeartbeats 4000000 in
theorem law_book (A : Option Addr) (n c : Nat) (l : List Tr) (ok : Nat → Prop) (w : World) (hs : Sl trR ok w A n l) (hn : n ≤ 1000) (hwf : ∀ t ∈ l, TrWf t) (hok : ∀ k, ok k → k < w.heap.size) :
    Calls Tryd.prog 22 #[.slice A n c] w (NewAll l w) := by
  have Hs := Lib.hid hs
  have Hl := Lib.hid hs.1
  have Hwf := Lib.hid hwf
  have Hok := Lib.hid hok
  obtain ⟨z0, hz0, hz1, hz2, hz3⟩ := info_parts info_tr
  clear hs hwf hok
  go_enter Tryd.func22, Tryd.ntmps22
  go_wp2_with fail
  go_loopw [4, 5] (fun v i wr => ∃ (k : Nat) (Al : Option Addr) (cl : Nat), k ≤ n ∧ i = .int .i64 k ∧ v = .slice Al k cl ∧ Own trR 29 ok wr w.heap.size (.slice Al k cl) k (l.take k) ∧ Ext w wr) (fun _ i _ => n - (intOf i).toNat)
  case atStart => exact ⟨0, none, 0, Nat.zero_le _, rfl, rfl, Own.nil_, Keeps.refl _ _⟩
  case round =>
    obtain ⟨k, Al, cl, hk, rfl, rfl, hown, hx⟩ := hrel
    have Hown := Lib.hid hown
    have Hx := Lib.hid hx
    have hsz := hx.size
    clear hown hx
    by_cases hlt : k < n
    · obtain ⟨b, o', t, A', c', rfl, hb, ho, ht, hc', hs', d0, d1, d2, d3, d4⟩ := (Hs.out.ext Hx.out).tr hlt
      have Ht := Lib.hid ht
      have Hs' := Lib.hid hs'
      have i0 : (0 : Int) ≤ (k : Int) := by omega
      have i1 : (k : Int) < (n : Int) := by omega
      have Hm := Lib.hid (show ∀ i, i < wr.heap.size → ok i → off ok (.slice Al k cl) i from fun i _ h => ⟨h, fun e => by have := (Hown.out.lt i e).1; have := Hok.out i h; omega⟩)
      clear ht hs'
      go_wp2_with (first
        | (go_at_call 13; refine (law_to2 _ _ _ _ _ _ _ _).mono ?_; rintro _ w1 ⟨rfl, hx1⟩; have hsz1 := hx1.size; have Hx1 := Lib.hid hx1; clear hx1)
        | (at_builtin; refine wpList_append_Own (ok := ok) (R := trR) _ rfl (.tmp 12) (.tmp 18) 75 rfl 29 z0 _ 72 w.heap.size Tryd.underlying75 hz0 hz1 hz2 hz3 rfl (by decide) rfl ((Hown.out.ext Hx1.out).alloc _) _ 1 1 [t] rfl (Srcs.one_new ⟨A', c', rfl, hc', (((Hs'.out.mono Hm.out).ext Hx1.out).alloc _)⟩ (blk_new _ _) rfl) (by omega) (by decide) (by simp; omega) ?_; intro A5 c5 w5 hown5 hg5 hat5; have Hext := Lib.hid (show Ext w w5 from Keeps.grown ((Hx.out.trans Hx1.out).alloc _) hg5 (fun g hg hl => by have := (Hown.out.lt g hg).1; omega)); have Hown5 := Lib.hid hown5; clear hown5 hg5 hat5))
      go_roundw
      case rel => exact ⟨k + 1, A5, c5, by omega, by go_num, rfl, by rw [List.take_add_one, Ht.out]; exact Hown5.out, Hext.out⟩
      case measure => simp [intOf]; omega
    · obtain rfl : k = n := by omega
      have HF := Lib.hid (List.take_of_length_le (Nat.le_of_eq Hl.out))
      go_wp2_with fail
      refine (new_all Al k cl l (fun _ => True) _ (by have h5 := Hown.out; rw [HF.out] at h5; exact h5.sl (fun _ _ _ _ => trivial) (fun _ _ _ => trivial)) hn Hwf.out).mono ?_
      rintro e w6 ⟨hx6, h6⟩
      have Hx6 := Lib.hid (Hx.out.trans hx6)
      clear hx6
      cases hm : l.all mayT
      · rw [if_neg (by rw [hm]; decide)] at h6
        subst h6
        go_wp2_with fail
        go_ret2
        exact ⟨Hx6.out, by rw [if_neg (by rw [hm]; decide)]; rfl⟩
      · rw [if_pos hm] at h6
        cases hcl : clashT l
        · rw [if_neg (by rw [hcl]; decide)] at h6
          obtain ⟨b, m, lim, v, rfl, hmb, hbk⟩ := h6
          have Hbk := Lib.hid hbk
          clear hbk
          go_wp2_with fail
          go_ret2
          refine ⟨Hx6.out, ?_⟩
          rw [if_pos hm, if_neg (by rw [hcl]; decide)]
          exact ⟨b, m, lim, v, rfl, by omega, Hbk.out⟩
        · rw [if_pos hcl] at h6
          subst h6
          go_wp2_with fail
          go_ret2
          exact ⟨Hx6.out, by rw [if_pos hm, if_pos hcl]; rfl⟩
end Go.Proofs.YtdkgphambjnbiaaDoor
