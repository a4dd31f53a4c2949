/-
  What is proved here: the law AuditGoesOn returns true, whatever the arguments, and leaves old memory as it was. Conditions: the library's variables hold what their text lays, and the slice holds entries.
-/
import Derived.Test.YtkfcbafmefdhmaaDoorAuAdd
import Derived.Test.YtkfcbafmefdhmaaDoorAuDec5
namespace Go.Proofs.YtkfcbafmefdhmaaDoor
open Go Go.RowKit Go.Proofs
attribute [local go_sem ↓] Go.wp_at_zero Go.wp_at_succ
set_option maxRecDepth 100000 in
set_option maxHeartbeats 4000000 in
theorem law_GoesOn_a (seed : Int) (A : Option Addr) (n c : Nat) (cut : Int) (es : List Ent) (ok : Nat → Prop) (w : World) (hs : Sl entR ok w A n es) (hn : n ≤ maxLen) (hv : VarsA w) (hcut : fewB es = false ∨ cut < 0 ∨ (n : Int) < cut) :
    Calls Tryd.prog 7 #[.int .u64 seed, .slice A n c, .int .i64 cut] w fun e w' => e = .returned (.bool true) ∧ Ext w w' := by
  have Hs := Lib.hid hs
  have Hv := Lib.hid hv
  have Hn := Lib.hid hn
  clear hs hv hn
  cases hf : fewB es
  · clear hcut
    go_enter Tryd.func7, Tryd.ntmps7
    go_wp2_with (first | (go_at_call 8; refine (law_lives _ Hv.out.pow).mono ?_; rintro _ w1 ⟨rfl, hx1⟩; have Hx1 := Lib.hid hx1; clear hx1) | (go_at_call 9; refine (ref_Few A n c es ok _ (Hs.out.ext Hx1.out) Hn.out).mono ?_; rw [hf]; rintro _ w2 ⟨rfl, rfl⟩))
    go_ret
    exact ⟨rfl, Hx1.out⟩
  · have hc : cut < 0 ∨ (n : Int) < cut := by
      rcases hcut with h | h
      · rw [h] at hf; cases hf
      · exact h
    clear hcut
    by_cases h0 : cut < 0
    · clear hc
      go_enter Tryd.func7, Tryd.ntmps7
      go_wp2_with (first | (go_at_call 8; refine (law_lives _ Hv.out.pow).mono ?_; rintro _ w1 ⟨rfl, hx1⟩; have Hx1 := Lib.hid hx1; clear hx1) | (go_at_call 9; refine (ref_Few A n c es ok _ (Hs.out.ext Hx1.out) Hn.out).mono ?_; rw [hf]; rintro _ w2 ⟨rfl, rfl⟩))
      go_ret
      exact ⟨rfl, Hx1.out⟩
    · have h1 : (n : Int) < cut := by
        rcases hc with h | h
        · exact absurd h h0
        · exact h
      clear hc
      go_enter Tryd.func7, Tryd.ntmps7
      go_wp2_with (first | (go_at_call 8; refine (law_lives _ Hv.out.pow).mono ?_; rintro _ w1 ⟨rfl, hx1⟩; have Hx1 := Lib.hid hx1; clear hx1) | (go_at_call 9; refine (ref_Few A n c es ok _ (Hs.out.ext Hx1.out) Hn.out).mono ?_; rw [hf]; rintro _ w2 ⟨rfl, rfl⟩))
      go_ret
      exact ⟨rfl, Hx1.out⟩
set_option maxRecDepth 100000 in
set_option maxHeartbeats 4000000 in
theorem law_GoesOn_b (seed : Int) (h0 : 0 ≤ seed) (h1 : seed < 18446744073709551616) (A : Option Addr) (n c cut : Nat) (es : List Ent) (ok : Nat → Prop) (w : World) (hs : Sl entR ok w A n es) (hn : n ≤ maxLen) (hv : VarsA w) (hf : fewB es = true) (hcut : cut ≤ n) :
    Calls Tryd.prog 7 #[.int .u64 seed, .slice A n c, .int .i64 (cut : Int)] w fun e w' => e = .returned (.bool true) ∧ Ext w w' := by
  have Hs := Lib.hid hs
  have Hv := Lib.hid hv
  have Hn := Lib.hid hn
  have Hseed := Lib.hid (And.intro h0 h1)
  clear hs hv hn h0 h1
  obtain ⟨hl, hin⟩ := fewB_in hf
  have hnl : n ≤ 31 := by have := Hs.out.1; omega
  have Hfew := Lib.hid (show ∀ e ∈ es, FewE e from fun e he => ⟨(hin e he).2.1, (hin e he).2.2.2, (hin e he).2.2.1⟩)
  have c0 : ¬ (cut : Int) < 0 := by omega
  have c1 : ¬ (n : Int) < (cut : Int) := by omega
  clear hin
  go_enter Tryd.func7, Tryd.ntmps7
  go_wp2_with (first
    | (go_at_call 8; refine (law_lives _ Hv.out.pow).mono ?_; rintro _ w1 ⟨rfl, hx1⟩; have Hx1 := Lib.hid hx1; clear hx1)
    | (go_at_call 9; refine (ref_Few A n c es ok _ (Hs.out.ext Hx1.out) Hn.out).mono ?_; rw [hf]; rintro _ w2 ⟨rfl, rfl⟩)
    | (go_at_call 10; refine (chain_New seed _).mono ?_; rintro _ w2 ⟨rfl, hch2, hx2⟩; have Hch2 := Lib.hid hch2; have Hx2 := Lib.hid (Hx1.out.trans hx2); clear hch2 hx2))
  have hbw : w.heap.size ≤ w1.heap.size := Hx1.out.size
  generalize w1.heap.size = b at *
  clear hf
  go_loopw [8] (fun i wr => ∃ (k : Nat) (es' : List Ent) (vc : Value), k ≤ cut ∧ i = .int .i64 (k : Int) ∧ CAt seed k es' ∧ ChainAt wr b seed es' vc ∧ Ext w wr) (fun i _ => cut - (intOf i).toNat)
  case atStart => exact ⟨0, [], .slice none 0 0, Nat.zero_le _, rfl, CAt.zero seed, Hch2.out, Hx2.out⟩
  case round =>
    obtain ⟨k, es', vc, hk, rfl, hat, hch, hx⟩ := hrel
    have Hat := Lib.hid hat
    have Hch := Lib.hid hch
    have Hx := Lib.hid hx
    have hlen := hat.len
    clear hat hch hx
    by_cases hlt : k < cut
    · obtain ⟨b', o, e, A', c', rfl, hb', ho, he, hc', hs', d0, d1, d2, d3, d4⟩ := Hs.out.ent (k := k) (by omega)
      have i0 : (0 : Int) ≤ (k : Int) := by omega
      have i1 : (k : Int) < (n : Int) := by omega
      have HA := Lib.hid (fun (W : World) (hx : Ext wr W) => chain_Add_any (fun _ => True) b seed es' vc e A' c' ok W ((ChainX.of Hch.out).ext hx) (fun _ _ => trivial) (by omega) ((hs'.ext Hx.out).ext hx) (Hfew.out e (List.mem_of_getElem? he)) ((Hv.out.pow.ext Hx.out).ext hx))
      have Hn1 := Lib.hid (Hat.out.add (Hfew.out e (List.mem_of_getElem? he)))
      have Hor := Lib.hid (Old.of_ext Hx.out)
      clear he hs' d4
      go_upto_region 11 with fail
      go_region_held3 (fun w' => w.heap.size ≤ w'.heap.size ∧ ∀ p : Addr, p.block < w.heap.size → w'.cell? p = w.cell? p) (repeat (first | with_reducible assumption | with_reducible exact Hor.out | with_reducible refine Old.drew ?_)) ((go_at_call 13; refine (HA.out _ (by repeat (first | with_reducible exact Keeps.refl _ _ | with_reducible refine Keeps.drew ?_ | with_reducible refine Keeps.drewN ?_ _ | with_reducible refine Keeps.alloc ?_ _))).mono ?_; rintro _ w3 ⟨rv, v3, rfl, hch3, hk3, _⟩; have hx3 := chain_ext ((ChainX.of Hch.out).ext (by repeat (first | with_reducible exact Keeps.refl _ _ | with_reducible refine Keeps.drew ?_ | with_reducible refine Keeps.drewN ?_ _ | with_reducible refine Keeps.alloc ?_ _))) hbw (Keeps.drew Hx.out) hk3; have ho3 : Old w w3 := Old.of_ext hx3))
      all_goals
        have Hch3 := Lib.hid hch3.at_
        have Hx3 := Lib.hid hx3
        clear hch3 hx3 hk3
        go_wp2_with fail
        go_roundw
        case rel => exact ⟨k + 1, _, v3, by omega, by go_num, Hn1.out, Hch3.out, Hx3.out⟩
        case measure => simp [intOf]; omega
    · obtain rfl : k = cut := by omega
      have hl31 : es'.length ≤ 31 := by omega
      have henc := Hat.out.enc_len (by omega) Hseed.out.2
      obtain ⟨S, hS⟩ : ∃ S : ByteArray, S = ⟨(encL seed es').toArray⟩ := ⟨_, rfl⟩
      have hSd : S.data.toList = encL seed es' := by rw [hS]
      have hSz : S.size ≤ 500000 := by
        have h9 : S.data.toList.length = S.size := by simp
        rw [hSd] at h9
        omega
      have HD0 := Lib.hid (show decD S.data.toList = ⟨some (seed, es'), 1 + es'.length, 0⟩ by rw [hSd]; exact decD_enc Hseed.out.1 Hseed.out.2 Hat.out.right Hat.out.sums)
      have HE := Lib.hid (chain_Encode b seed Hseed.out.1 Hseed.out.2 es' vc wr Hch.out (by omega) Hat.out.ok (Hv.out.pow.ext Hx.out))
      have HS := Lib.hid hS
      clear henc hSd hS
      go_wp2_with fail
      refine HE.out.mono ?_
      rintro _ w3 ⟨A3, n3, c3, rfl, hb3, hx3⟩
      have HD := aud_Decode S A3 n3 c3 w3 hSz (Hv.out.ext (Hx.out.trans hx3)) (fun W hxW => by rw [HS.out]; exact string_of_bts (P := Tryd.prog) W 39 9 5 A3 c3 Tryd.underlying39 Tryd.underlying5 Tryd.underlying9 (hb3.ext hxW))
      rw [HD0.out] at HD
      have HD := Lib.hid HD
      have Hx3 := Lib.hid hx3
      have hbn : n3 ≤ 1000000 := by
        have h9 := hb3.1
        have h8 : S.data.toList.length = S.size := by simp
        rw [HS.out] at h8 hSz
        simp at h8
        omega
      clear hb3 hx3 HE HD0
      go_wp2_with fail
      refine HD.out.mono ?_
      rintro _ w4 ⟨_, h4⟩
      obtain ⟨b2, v2, rfl, hb2, hc2, hx4⟩ := h4 seed es' rfl
      have hw3 := Hx3.out.size
      have hbl : b < wr.heap.size := (Array.getElem?_eq_some_iff.1 Hch.out.blk).1
      have hb2w : w.heap.size ≤ b2 := by have := Hx.out.size; omega
      have HP := Lib.hid (show Pair seed b es' vc b2 es' v2 w4 by
        have hc3 := Hch.out.ext Hx3.out
        have hrow : ∀ g, vc.ownBlock = some g → g < wr.heap.size := fun g hg => (Hch.out.own.lt g hg).2
        refine ⟨ChainX.ext ((ChainX.of hc3).mono (fun k hk9 _ => ⟨by omega, fun e => by have := (hc2.own.lt k e).1; omega⟩)) hx4, ⟨hc2.blk, hc2.own.mono (fun k _ h9 => ⟨h9, by omega, fun e => by have := hrow k e; omega⟩)⟩, by omega, fun e => by have := hrow b2 e; omega, fun e => by have := (hc2.own.lt b e).1; omega, fun g h1 h2 => by have := hrow g h1; have := (hc2.own.lt g h2).1; omega⟩)
      have Hx4 := Lib.hid (Hx.out.trans (Hx3.out.trans hx4))
      have Hit := Lib.hid (show ∀ e ∈ es', e.items.length ≤ 1000 from fun e he => (Hat.out.ok e he).n)
      have t9 : (((1 + es'.length : Nat) : Int) != 1 + (es'.length : Int)) = false := by simp
      have t8 : (((1 + es'.length : Nat) : Int) == 1 + (es'.length : Int)) = true := by simp
      clear h4 hc2 hx4 hb2 HD
      go_wp2_with (go_at_call 16; refine (chain_Entries b seed es' vc _ HP.out.c.at_ (by omega) Hit.out).mono ?_; rintro _ w5 ⟨A5, c5, rfl, hown5, hx5⟩; have HP5 := Lib.hid (HP.out.ext hx5); have Hx5 := Lib.hid (Hx4.out.trans hx5); clear hown5 hx5)
      clear t8 t9 HP Hx4
      go_loopw [12] (fun i wr' => ∃ (q : Nat) (es2 : List Ent) (va vb : Value), k ≤ q ∧ q ≤ n ∧ i = .int .i64 (q : Int) ∧ CAt seed q es2 ∧ Pair seed b es2 va b2 es2 vb wr' ∧ Ext w wr') (fun i _ => n - (intOf i).toNat)
      case atStart => exact ⟨k, es', vc, v2, Nat.le_refl _, hcut, rfl, Hat.out, HP5.out, Hx5.out⟩
      case round =>
        obtain ⟨q, es2, va, vb, hq1, hq2, rfl, hat2, hP2, hx6⟩ := hrel
        have Hat2 := Lib.hid hat2
        have HP2 := Lib.hid hP2
        have Hx6 := Lib.hid hx6
        have hlen2 := hat2.len
        clear hat2 hP2 hx6
        by_cases hlt2 : q < n
        · obtain ⟨b', o, e, A', c', rfl, hb', ho, he, hc', hs', d0, d1, d2, d3, d4⟩ := Hs.out.ent (k := q) (by omega)
          have i0 : (0 : Int) ≤ (q : Int) := by omega
          have i1 : (q : Int) < (n : Int) := by omega
          have hfe := Hfew.out e (List.mem_of_getElem? he)
          have HA := Lib.hid (fun (W : World) (hx : Ext wr W) => chain_Add_any (fun k => k ≠ b2 ∧ vb.ownBlock ≠ some k) b seed es2 va e A' c' ok W (HP2.out.c.ext hx) (HP2.out.ext hx).room (by omega) ((hs'.ext Hx6.out).ext hx) hfe ((Hv.out.pow.ext Hx6.out).ext hx))
          have Hn1 := Lib.hid (Hat2.out.add hfe)
          have Hor := Lib.hid (Old.of_ext Hx6.out)
          have Hs' := Lib.hid hs'
          have Hfe := Lib.hid hfe
          clear he hs' d4 hfe
          go_upto_region 18 with fail
          go_cut [] (fun wc => ∃ va', Pair seed b (addE seed es2 e) va' b2 es2 vb wc ∧ Ext w wc)
          case first =>
            go_region_held3 (fun w' => w.heap.size ≤ w'.heap.size ∧ ∀ p : Addr, p.block < w.heap.size → w'.cell? p = w.cell? p) (repeat (first | with_reducible assumption | with_reducible exact Hor.out | with_reducible refine Old.drew ?_)) ((go_at_call 13; refine (HA.out _ (by repeat (first | with_reducible exact Keeps.refl _ _ | with_reducible refine Keeps.drew ?_ | with_reducible refine Keeps.drewN ?_ _ | with_reducible refine Keeps.alloc ?_ _))).mono ?_; rintro _ w7 ⟨rv, v7, rfl, hch7, hk7, hr7⟩; have hx7 := chain_ext (HP2.out.c.ext (by repeat (first | with_reducible exact Keeps.refl _ _ | with_reducible refine Keeps.drew ?_ | with_reducible refine Keeps.drewN ?_ _ | with_reducible refine Keeps.alloc ?_ _))) hbw (Keeps.drew Hx6.out) hk7; have hP7 := Pair.add (HP2.out.ext (by repeat (first | with_reducible exact Keeps.refl _ _ | with_reducible refine Keeps.drew ?_ | with_reducible refine Keeps.drewN ?_ _ | with_reducible refine Keeps.alloc ?_ _))) hch7 hk7 hr7; have ho7 : Old w w7 := Old.of_ext hx7))
            all_goals (go_wp2_with fail; go_meet; exact ⟨v7, hP7, hx7⟩)
          case rest =>
            obtain ⟨va', hP7, hx7⟩ := hcut
            obtain ⟨wy, hwy⟩ : ∃ wy, wy = wc := ⟨_, rfl⟩
            rw [← hwy] at hP7 hx7 ⊢
            clear hwy
            have HP7 := Lib.hid hP7
            have Hx7 := Lib.hid hx7
            have HB := Lib.hid (fun (W : World) (hx : Ext wy W) => chain_Add_any (fun k => k ≠ b ∧ va'.ownBlock ≠ some k) b2 seed es2 vb e A' c' ok W (HP7.out.d.ext hx) (HP7.out.swap.ext hx).room (by omega) ((Hs'.out.ext Hx7.out).ext hx) Hfe.out ((Hv.out.pow.ext Hx7.out).ext hx))
            have Hor2 := Lib.hid (Old.of_ext Hx7.out)
            clear hP7 hx7 HA Hor
            go_upto_region 19 with fail
            go_region_held3 (fun w' => w.heap.size ≤ w'.heap.size ∧ ∀ p : Addr, p.block < w.heap.size → w'.cell? p = w.cell? p) (repeat (first | with_reducible assumption | with_reducible exact Hor2.out | with_reducible refine Old.drew ?_)) ((go_at_call 13; refine (HB.out _ (by repeat (first | with_reducible exact Keeps.refl _ _ | with_reducible refine Keeps.drew ?_ | with_reducible refine Keeps.drewN ?_ _ | with_reducible refine Keeps.alloc ?_ _))).mono ?_; rintro _ w8 ⟨rv, v8, rfl, hch8, hk8, hr8⟩; have hx8 := chain_ext (HP7.out.d.ext (by repeat (first | with_reducible exact Keeps.refl _ _ | with_reducible refine Keeps.drew ?_ | with_reducible refine Keeps.drewN ?_ _ | with_reducible refine Keeps.alloc ?_ _))) hb2w (Keeps.drew Hx7.out) hk8; have hP8 := (Pair.add (HP7.out.swap.ext (by repeat (first | with_reducible exact Keeps.refl _ _ | with_reducible refine Keeps.drew ?_ | with_reducible refine Keeps.drewN ?_ _ | with_reducible refine Keeps.alloc ?_ _))) hch8 hk8 hr8).swap; have ho8 : Old w w8 := Old.of_ext hx8))
            all_goals
              have HP8 := Lib.hid hP8
              have Hx8 := Lib.hid hx8
              clear hP8 hx8 hch8 hk8 hr8 ho8
              go_wp2_with fail
              go_roundw
              case rel => exact ⟨q + 1, _, va', v8, by omega, by omega, by go_num, Hn1.out, HP8.out, Hx8.out⟩
              case measure => simp [intOf]; omega
        · obtain rfl : q = n := by omega
          have h31 : es2.length ≤ 31 := by omega
          have Hit2 := Lib.hid (show ∀ e ∈ es2, e.items.length ≤ 1000 from fun e he => (Hat2.out.ok e he).n)
          have Hall := Lib.hid Hat2.out.ok
          have HR := Lib.hid (show checkL seed es2 = es2.length from Hat2.out.right)
          have Hin2 := Lib.hid Hat2.out.all
          have Hc := Lib.hid HP2.out.c.at_
          have Hd := Lib.hid HP2.out.d.at_
          go_wp2_with (go_at_call 16; refine (chain_Entries b seed es2 va _ Hc.out (by omega) Hit2.out).mono ?_; rintro _ w7 ⟨A7, c7, rfl, hown7, hx7⟩; have Hown7 := Lib.hid hown7; have Hx7 := Lib.hid hx7; clear hown7 hx7)
          go_region_with (first
            | (go_at_call 17; ((with_reducible refine (chain_Encode b seed Hseed.out.1 Hseed.out.2 es2 va _ ((Hc.out.ext Hx7.out).ext (by repeat (first | with_reducible exact Keeps.refl _ _ | with_reducible refine Keeps.drew ?_ | with_reducible refine Keeps.drewN ?_ _ | with_reducible refine Keeps.alloc ?_ _))) (by omega) Hall.out ((Hv.out.pow.ext (Hx6.out.trans Hx7.out)).ext (by repeat (first | with_reducible exact Keeps.refl _ _ | with_reducible refine Keeps.drew ?_ | with_reducible refine Keeps.drewN ?_ _ | with_reducible refine Keeps.alloc ?_ _)))).mono ?_); rintro _ w8 ⟨A8, n8, c8, rfl, hb8, hx8⟩; have hcv8 := string_of_bts (P := Tryd.prog) w8 39 9 5 A8 c8 Tryd.underlying39 Tryd.underlying5 Tryd.underlying9 hb8; have hy8 : Ext w7 w8 := Keeps.trans (by repeat (first | with_reducible exact Keeps.refl _ _ | with_reducible refine Keeps.drew ?_ | with_reducible refine Keeps.drewN ?_ _ | with_reducible refine Keeps.alloc ?_ _)) hx8))
            | (go_at_call 17; ((with_reducible refine (chain_Encode b2 seed Hseed.out.1 Hseed.out.2 es2 vb _ ((Hd.out.ext Hx7.out).ext (by repeat (first | with_reducible exact hy8 | with_reducible exact Keeps.refl _ _ | with_reducible refine Keeps.drew ?_ | with_reducible refine Keeps.drewN ?_ _ | with_reducible refine Keeps.alloc ?_ _))) (by omega) Hall.out ((Hv.out.pow.ext (Hx6.out.trans Hx7.out)).ext (by repeat (first | with_reducible exact hy8 | with_reducible exact Keeps.refl _ _ | with_reducible refine Keeps.drew ?_ | with_reducible refine Keeps.drewN ?_ _ | with_reducible refine Keeps.alloc ?_ _)))).mono ?_); rintro _ w9 ⟨A9, n9, c9, rfl, hb9, hx9⟩; have hcv9 := string_of_bts (P := Tryd.prog) w9 39 9 5 A9 c9 Tryd.underlying39 Tryd.underlying5 Tryd.underlying9 hb9; have hcv89 := string_of_bts (P := Tryd.prog) w9 39 9 5 A8 c8 Tryd.underlying39 Tryd.underlying5 Tryd.underlying9 (hb8.ext hx9); have hy9 : Ext w7 w9 := Keeps.trans (by repeat (first | with_reducible exact hy8 | with_reducible exact Keeps.refl _ _ | with_reducible refine Keeps.drew ?_ | with_reducible refine Keeps.drewN ?_ _ | with_reducible refine Keeps.alloc ?_ _)) hx9))
            | (go_at_call 19; refine (aud_Check seed A7 es2.length c7 es2 (fun _ => True) _ ((Hown7.out.sl (fun _ _ _ _ => trivial) (fun _ _ _ => trivial)).ext (by repeat (first | with_reducible exact hy9 | with_reducible exact Keeps.refl _ _ | with_reducible refine Keeps.drew ?_ | with_reducible refine Keeps.drewN ?_ _ | with_reducible refine Keeps.alloc ?_ _))) (by omega) Hin2.out ((Hv.out.pow.ext (Hx6.out.trans Hx7.out)).ext (by repeat (first | with_reducible exact hy9 | with_reducible exact Keeps.refl _ _ | with_reducible refine Keeps.drew ?_ | with_reducible refine Keeps.drewN ?_ _ | with_reducible refine Keeps.alloc ?_ _)))).mono ?_; rw [HR.out]; rintro _ w10 ⟨rfl, hx10⟩; have hcvA := string_of_bts (P := Tryd.prog) w10 39 9 5 A9 c9 Tryd.underlying39 Tryd.underlying5 Tryd.underlying9 (hb9.ext hx10); have hy10 : Ext w7 w10 := Keeps.trans (by repeat (first | with_reducible exact hy9 | with_reducible exact Keeps.refl _ _ | with_reducible refine Keeps.drew ?_ | with_reducible refine Keeps.drewN ?_ _ | with_reducible refine Keeps.alloc ?_ _)) hx10))
          all_goals
            have Hy := Lib.hid ((Hx6.out.trans Hx7.out).trans hy10)
            clear hy8 hy9 hy10 hb8 hb9 hx8 hx9 hx10 hcv8 hcv9 hcv89 hcvA
            go_wp2_with fail
            go_ret
            exact ⟨rfl, Hy.out⟩
theorem law_GoesOn (seed : Int) (h0 : 0 ≤ seed) (h1 : seed < 18446744073709551616) (A : Option Addr) (n c : Nat) (cut : Int) (es : List Ent) (ok : Nat → Prop) (w : World) (hs : Sl entR ok w A n es) (hn : n ≤ maxLen) (hv : VarsA w) :
    Calls Tryd.prog 7 #[.int .u64 seed, .slice A n c, .int .i64 cut] w fun e w' => e = .returned (.bool true) ∧ Ext w w' := by
  cases hf : fewB es
  · exact law_GoesOn_a seed A n c cut es ok w hs hn hv (.inl hf)
  · by_cases h2 : cut < 0 ∨ (n : Int) < cut
    · exact law_GoesOn_a seed A n c cut es ok w hs hn hv (.inr h2)
    · obtain ⟨k, rfl⟩ : ∃ k : Nat, cut = k := ⟨cut.toNat, by omega⟩
      exact law_GoesOn_b seed h0 h1 A n c k es ok w hs hn hv hf (by omega)
end Go.Proofs.YtkfcbafmefdhmaaDoor
