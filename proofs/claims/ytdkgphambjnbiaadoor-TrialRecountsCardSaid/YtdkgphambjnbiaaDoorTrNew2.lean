/-
  What is proved here: of trials that may be a book is made, if none stands against another one. Conditions: at most a thousand trials, no text is longer than a text can be.
-/
import Derived.Test.YtdkgphambjnbiaaDoorTrNew
namespace Go.Proofs.YtdkgphambjnbiaaDoor
open Go Go.RowKit Go.Proofs
attribute [local go_sem ↓] Go.wp_at_zero Go.wp_at_succ

def NewPost (l : List Tr) (w : World) (e : Ending) (w' : World) : Prop :=
  Ext w w' ∧ if clashT l then e = .returned (.tuple #[.pointer none, .int .i64 7]) else ∃ b m lim v, e = .returned (.tuple #[.pointer (some ⟨b, 0, none⟩), .int .i64 0]) ∧ w.heap.size ≤ m ∧ BookX w' b m lim v [] l (fun _ => [])

theorem blk_new' (w : World) (o : Obj) (g : Nat) (h : g = w.heap.size) : (w.alloc o).heap[g]? = some o := by subst h; exact blk_new w o
structure NewAt (w : World) (m b : Nat) (l : List Tr) (k : Nat) (v : Value) (wr : World) : Prop where
  blk : wr.heap[b]? = some (.cells #[v, .map (some m)] 82)
  own : Own trR 29 (fun j => b < j) wr (b + 1) v k (l.take k)
  mp : Mp (strK (P := Tryd.prog) (kt := 9) Tryd.underlying9) mapV wr m []
  no : ∀ i, i < k → clashB l i = false
  ext : Ext w wr

set_option maxRecDepth 100000 in
set_option maxHeartbeats 4000000 in
theorem new_may (A : Option Addr) (n c : Nat) (l : List Tr) (ok : Nat → Prop) (w : World) (hs : Sl trR ok w A n l) (hn : n ≤ 1000) (hwf : ∀ t ∈ l, TrWf t) (hm : l.all mayT = true) :
    Calls Tryd.prog 27 #[.slice A n c] w (NewPost l w) := by
  have Hs := Lib.hid hs
  have Hl := Lib.hid hs.1
  have Hwf := Lib.hid hwf
  have Hm := Lib.hid (List.all_eq_true.1 hm)
  have hmm := @run_makeMap Tryd.prog
  clear hs hwf hm
  go_enter Tryd.func27, Tryd.ntmps27
  go_wp2_with fail
  go_loopw [12] (fun i wr => ∃ k : Nat, k ≤ n ∧ i = .int .i64 k ∧ Ext w wr) (fun i _ => n - (intOf i).toNat)
  case atStart => exact ⟨0, Nat.zero_le _, rfl, Keeps.refl _ _⟩
  case round =>
    obtain ⟨k, hk, rfl, hx⟩ := hrel
    have Hx := Lib.hid hx
    clear hx
    by_cases hlt : k < n
    · obtain ⟨b, o', t, A', c', rfl, hb, ho, ht, hc', hs', d0, d1, d2, d3, d4⟩ := (Hs.out.ext Hx.out).tr hlt
      have Hs' := Lib.hid hs'
      have Hw := Lib.hid (Hwf.out t (List.mem_of_getElem? ht))
      have h7 : mayT t = true := Hm.out t (List.mem_of_getElem? ht)
      have i0 : (0 : Int) ≤ (k : Int) := by omega
      have i1 : (k : Int) < (n : Int) := by omega
      clear ht hs'
      go_wp2_with (go_at_call 16; refine (tr_May t A' c' ok _ (Hs'.out.alloc _) hc' Hw.out).mono ?_; rw [h7]; rintro _ w2 ⟨rfl, hx2⟩; have Hx2 := Lib.hid ((Hx.out.alloc _).trans hx2); clear hx2)
      go_roundw
      case rel => exact ⟨k + 1, by omega, by go_num, Hx2.out⟩
      case measure => simp [intOf]; omega
    · obtain rfl : k = n := by omega
      obtain ⟨W, hW⟩ : ∃ W, W = wr := ⟨_, rfl⟩
      rw [← hW] at Hx ⊢
      clear hW
      have hwW : w.heap.size ≤ W.heap.size := Hx.out.size
      go_wp2_with fail
      go_loopw [25] (fun i wr => ∃ (j : Nat) (v : Value), j ≤ k ∧ i = .int .i64 j ∧ NewAt w W.heap.size (W.heap.size + 1) l j v wr) (fun i _ => k - (intOf i).toNat)
      case atStart => exact ⟨0, .slice none 0 0, Nat.zero_le _, rfl, ⟨blk_new' _ _ _ (by simp), Own.nil_, (Mp.new W).ext ((Keeps.refl _ _).alloc _), fun i hi => absurd hi (by omega), (Hx.out.alloc _).alloc _⟩⟩
      case round =>
        obtain ⟨j, v, hj, rfl, hat⟩ := hrel
        have Hat := Lib.hid hat
        clear hat
        by_cases hjl : j < k
        · obtain ⟨b', o', t, A', c', rfl, hb, ho, ht, hc', hs', d0, d1, d2, d3, d4⟩ := (Hs.out.ext Hat.out.ext).tr hjl
          obtain ⟨A0, c0, rfl⟩ := Hat.out.own.form
          have q0 := blk_cell Hat.out.blk 0 rfl
          have Hs' := Lib.hid hs'
          have Ht := Lib.hid ht
          have Hw := Lib.hid (Hwf.out t (List.mem_of_getElem? ht))
          have hfew := (mayT_parts (Hm.out t (List.mem_of_getElem? ht))).few
          have i0 : (0 : Int) ≤ (j : Int) := by omega
          have i1 : (j : Int) < (k : Int) := by omega
          have hbw : W.heap.size + 1 < wr.heap.size := (Array.getElem?_eq_some_iff.1 Hat.out.blk).1
          clear ht hs'
          cases hcl : (l.take j).any (fun o => againstT o t)
          · go_upto_region 15 with (first
              | (go_at_call 47; refine (contains_new (fun o => againstT o t) wr.heap.size A0 j c0 (l.take j) (fun _ => True) _ ((Hat.out.own.sl (fun _ _ _ _ => trivial) (fun _ _ _ => trivial)).alloc _) (by omega) (fun W' o A c hx => new_fn o t A A' c c' wr.heap.size W' (hx.blk (blk_new _ _)))).mono ?_; rw [hcl]; rintro _ w3 ⟨rfl, hx3⟩; have hg3 := hx3.blk (blk_new wr _); have r4 := blk_cell hg3 4 rfl; have Hg3 := Lib.hid hg3; have Hx3 := Lib.hid (Keeps.trans ((Keeps.refl (fun _ => True) wr).alloc _) hx3); clear hg3 hx3)
              | (go_at_call 48; refine (clone_str A' t.arms.length c' t.arms ok _ (Hs'.out.ext Hx3.out) (by omega)).mono ?_; rintro _ w4 ⟨A2, c2, rfl, hc2, hs4, hx4⟩; have hg4 := hx4.blk Hg3.out; have p4 := blk_cell hg4 4 rfl; have f4 := blk_free hg4; have Hg4 := Lib.hid hg4; have Hx4 := Lib.hid hx4; have Hs4 := Lib.hid hs4; clear hg4 hx4 hs4))
            clear r4 p4 f4 q0
            obtain ⟨X, hX⟩ : ∃ X, X = w4.setCell ⟨wr.heap.size, 4, none⟩ (.slice A2 t.arms.length c2) := ⟨_, rfl⟩
            rw [← hX]
            have hgX : X.heap[wr.heap.size]? = some (.cells #[.string t.name, .string t.layer, .int .i64 t.lo, .int .i64 t.hi, .slice A2 t.arms.length c2] 29) := by rw [hX]; simpa using blk_set Hg4.out 4 (.slice A2 t.arms.length c2)
            have hxX : Ext wr X := by
              have h5 := Hx3.out.trans Hx4.out
              rw [hX]
              repeat (first | with_reducible exact h5 | with_reducible exact Keeps.refl _ _ | with_reducible refine Keeps.drew ?_ | with_reducible refine Keeps.drewN ?_ _ | with_reducible refine Keeps.alloc ?_ _ | with_reducible refine Keeps.setCell ?_ (by first | (intro h; simp at h; done) | (intro _; simp; done) | (intro _; simp; omega) | (intro h; simp at h; omega)) _)
            have hsz3 : wr.heap.size < w3.heap.size := (Array.getElem?_eq_some_iff.1 Hg3.out).1
            have hsX : Sl strR (off (fun i => W.heap.size + 1 < i) (.slice A0 j c0)) X A2 t.arms.length t.arms := by
              rw [hX]
              refine (Hs4.out.keep ?_).mono (fun i _ h => ⟨by omega, fun e => by have := (Hat.out.own.lt i e).2; omega⟩)
              repeat (first | with_reducible exact Keeps.refl _ _ | with_reducible exact Keeps.refl _ _ | with_reducible refine Keeps.drew ?_ | with_reducible refine Keeps.drewN ?_ _ | with_reducible refine Keeps.alloc ?_ _ | with_reducible refine Keeps.setCell ?_ (by first | (intro h; simp at h; done) | (intro _; simp; done) | (intro _; simp; omega) | (intro h; simp at h; omega)) _)
            have HgX := Lib.hid hgX
            have HxX := Lib.hid hxX
            have HsX := Lib.hid hsX
            have hbX := hxX.blk Hat.out.blk
            have q0 := blk_cell hbX 0 rfl
            have f0 := blk_free hbX
            have HbX := Lib.hid hbX
            have e0 := blk_cell hgX 0 rfl
            have e1 := blk_cell hgX 1 rfl
            have e2 := blk_cell hgX 2 rfl
            have e3 := blk_cell hgX 3 rfl
            have e4 := blk_cell hgX 4 rfl
            have hszX : wr.heap.size < X.heap.size := (Array.getElem?_eq_some_iff.1 hgX).1
            have hbX1 : W.heap.size + 1 < X.heap.size := by omega
            have Hc2 := Lib.hid hc2
            have Hcl := Lib.hid (show clashB l j = false by simp only [clashB, Ht.out]; exact hcl)
            have Hrow := Lib.hid Hat.out.own.lt
            have Hnb := Lib.hid (show some (W.heap.size + 1) ≠ (Value.slice A0 j c0).ownBlock from fun e => by have := (Hrow.out _ e.symm).1; omega)
            have Hown := Lib.hid (Hat.out.own.ext hxX)
            have Hmp := Lib.hid (Hat.out.mp.ext hxX)
            have HxwX := Lib.hid (Hat.out.ext.trans hxX)
            obtain ⟨z0, hz0, hz1, hz2, hz3⟩ := info_parts info_tr
            clear hX hgX hxX hsX hbX Hg3 Hx3 Hg4 Hx4 Hs4 hc2 hcl
            go_region_law (first
              | (refine step_append_Own (ok := fun i => W.heap.size + 1 < i) (R := trR) _ (by rfl) (.tmp 44) (.tmp 46) 75 (by rfl) 29 z0 _ 72 (W.heap.size + 1 + 1) Tryd.underlying75 hz0 hz1 hz2 hz3 rfl (by decide) (by rfl) (Hown.out.ext (by repeat (first | with_reducible exact Keeps.refl _ _ | with_reducible refine Keeps.drew ?_ | with_reducible refine Keeps.drewN ?_ _ | with_reducible refine Keeps.alloc ?_ _))) _ 1 1 [t] (by rfl) (Srcs.one_new ⟨A2, c2, rfl, Hc2.out, HsX.out.ext (by repeat (first | with_reducible exact Keeps.refl _ _ | with_reducible refine Keeps.drew ?_ | with_reducible refine Keeps.drewN ?_ _ | with_reducible refine Keeps.alloc ?_ _))⟩ (blk_new _ _) rfl) (by omega) (by decide) (by simp; omega) ?_; intro A5 c5 w5 hown5 hg5 hat5; have hb5 := (hg5.block (W.heap.size + 1) (by simp; omega) Hnb.out).trans (blk_old HbX.out _); have q5 := blk_cell hb5 0 rfl; have f5 := blk_free hb5))
            all_goals
              have Hown5 := Lib.hid hown5
              have Hg5 := Lib.hid hg5
              have Hb5 := Lib.hid hb5
              clear hown5 hg5 hat5 hb5
              go_wp2_with fail
              go_roundw
              case measure => simp [intOf]; omega
              case rel =>
                refine ⟨j + 1, .slice A5 (j + 1) c5, by omega, by go_num, ⟨by have := blk_set Hb5.out 0 (.slice A5 (j + 1) c5); simpa using this, ?_, ?_, fun i hi => ?_, ?_⟩⟩
                · have h6 := Hown5.out.keep (w' := w5.setCell ⟨W.heap.size + 1, 0, none⟩ (.slice A5 (j + 1) c5)) ((Keeps.refl _ _).setCell (fun _ h => absurd h.1 (Nat.lt_irrefl _)) _) (fun g hg => Below.heap_setCell _ _ _ _ (by have := (Hown5.out.lt g hg).1; simp; omega))
                  rw [List.take_add_one, Ht.out]
                  exact h6
                · have h7 : Keeps (fun i => i = W.heap.size) X (w5.setCell ⟨W.heap.size + 1, 0, none⟩ (.slice A5 (j + 1) c5)) := Keeps.setCell (Keeps.grown (by repeat (first | with_reducible exact Keeps.refl _ _ | with_reducible refine Keeps.drew ?_ | with_reducible refine Keeps.drewN ?_ _ | with_reducible refine Keeps.alloc ?_ _)) Hg5.out (fun i hi _ h => by have := (Hrow.out i hi).1; omega)) (fun _ h => by simp at h) _
                  exact Hmp.out.keep h7 rfl
                · rcases Nat.lt_or_ge i j with h | h
                  · exact Hat.out.no i h
                  · obtain rfl : i = j := by omega
                    exact Hcl.out
                · exact Keeps.setCell (Keeps.grown (by repeat (first | with_reducible exact HxwX.out | with_reducible exact Keeps.refl _ _ | with_reducible refine Keeps.drew ?_ | with_reducible refine Keeps.drewN ?_ _ | with_reducible refine Keeps.alloc ?_ _)) Hg5.out (fun i hi hl => by have := (Hrow.out i hi).1; omega)) (fun hl => by simp at hl; omega) _
          · have Hcl := Lib.hid (clashT_yes Ht.out hcl)
            go_wp2_with (go_at_call 47; refine (contains_new (fun o => againstT o t) wr.heap.size A0 j c0 (l.take j) (fun _ => True) _ ((Hat.out.own.sl (fun _ _ _ _ => trivial) (fun _ _ _ => trivial)).alloc _) (by omega) (fun W' o A c hx => new_fn o t A A' c c' wr.heap.size W' (hx.blk (blk_new _ _)))).mono ?_; rw [hcl]; rintro _ w3 ⟨rfl, hx3⟩; have Hx3 := Lib.hid (Keeps.trans ((Keeps.refl (fun _ => True) wr).alloc _) hx3); clear hx3)
            go_ret2
            refine ⟨Hat.out.ext.trans Hx3.out, ?_⟩
            rw [if_pos Hcl.out]; rfl
        · obtain rfl : j = k := by omega
          have Hcl := Lib.hid (clashT_no (l := l) (fun i hi => Hat.out.no i (by have := Hl.out; omega)))
          go_wp2_with fail
          go_ret2
          refine ⟨Hat.out.ext, ?_⟩
          rw [if_neg (by rw [Hcl.out]; decide)]
          have hbk := Hat.out.blk
          have hlt : W.heap.size + 1 < wr.heap.size := (Array.getElem?_eq_some_iff.1 hbk).1
          have hown := Hat.out.own
          rw [List.take_of_length_le (Nat.le_of_eq Hl.out)] at hown
          have hll := Hl.out
          refine ⟨W.heap.size + 1, W.heap.size, wr.heap.size, v, rfl, by omega, ⟨hbk, ?_, fun g hg => (hown.lt g hg).2, by omega, hlt, Nat.le_refl _, Hat.out.mp, by simp, by simp, by simp, fun _ _ => rfl⟩⟩
          rw [hll]
          exact hown.mono (fun i hi h => ⟨h, hi⟩)
theorem new_clash (A : Option Addr) (n c : Nat) (l : List Tr) (ok : Nat → Prop) (w : World) (hs : Sl trR ok w A n l) (hn : n ≤ 1000) (hwf : ∀ t ∈ l, TrWf t) (hm : l.all mayT = true) (hc : clashT l = true) :
    Calls Tryd.prog 27 #[.slice A n c] w fun e w' => e = .returned (.tuple #[.pointer none, .int .i64 7]) ∧ Ext w w' :=
  (new_may A n c l ok w hs hn hwf hm).mono fun _ _ ⟨h1, h2⟩ => by rw [if_pos hc] at h2; exact ⟨h2, h1⟩
theorem new_ok (A : Option Addr) (n c : Nat) (l : List Tr) (ok : Nat → Prop) (w : World) (hs : Sl trR ok w A n l) (hn : n ≤ 1000) (hwf : ∀ t ∈ l, TrWf t) (hm : l.all mayT = true) (hc : clashT l = false) :
    Calls Tryd.prog 27 #[.slice A n c] w fun e w' => ∃ b m lim v, e = .returned (.tuple #[.pointer (some ⟨b, 0, none⟩), .int .i64 0]) ∧ w.heap.size ≤ m ∧ BookX w' b m lim v [] l (fun _ => []) ∧ Ext w w' :=
  (new_may A n c l ok w hs hn hwf hm).mono fun _ _ ⟨h1, h2⟩ => by
    rw [if_neg (by rw [hc]; decide)] at h2
    obtain ⟨b, m, lim, v, h3, h4, h5⟩ := h2
    exact ⟨b, m, lim, v, h3, h4, h5, h1⟩
end Go.Proofs.YtdkgphambjnbiaaDoor
