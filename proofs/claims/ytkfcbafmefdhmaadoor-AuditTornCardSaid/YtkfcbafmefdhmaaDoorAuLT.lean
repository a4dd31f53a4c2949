/-
  What is proved here: the law AuditTorn returns true, whatever the arguments, and leaves old memory as it was. Conditions: the library's variables hold what their text lays, and the slice holds entries.
-/
import Derived.Test.YtkfcbafmefdhmaaDoorAuAdd
import Derived.Test.YtkfcbafmefdhmaaDoorAuDec5
namespace Go.Proofs.YtkfcbafmefdhmaaDoor
open Go Go.RowKit Go.Proofs
attribute [local go_sem ↓] Go.wp_at_zero Go.wp_at_succ
theorem Bts.take {w : World} {base g n c : Nat} {bs : List UInt8} (h : Bts w base (.slice (some ⟨g, 0, none⟩) n c) n bs) {q : Nat} (hq : q ≤ n) : Bts w base (.slice (some ⟨g, 0, none⟩) q c) q (bs.take q) := by
  refine ⟨by rw [List.length_take, h.1]; omega, ?_⟩
  rcases h.2 with ⟨hv, _⟩ | ⟨g', cap, hv, hb, hnc, hcm, hg, hc, hx⟩
  · injection hv with hv; cases hv
  · right
    refine ⟨g', cap, ?_, hb, by omega, hcm, hg, hc, fun j u hu => hx j u ?_⟩
    · injection hv with h1 _ h2
      rw [h1, h2]
    · rw [List.map_take, List.getElem?_take] at hu
      split at hu
      · exact hu
      · cases hu
theorem cnt_step {bs : List UInt8} {j : Nat} (h : j < bs.length) : cnt10 (bs.take (j + 1)) = cnt10 (bs.take j) + if bs[j] == 10 then 1 else 0 := by
  unfold cnt10
  rw [List.take_succ_eq_append_getElem h, List.countP_append, List.countP_cons, List.countP_nil, Nat.zero_add]
theorem cnt_le_take (bs : List UInt8) (j : Nat) : cnt10 (bs.take j) ≤ cnt10 bs := by
  conv => rhs; rw [← List.take_append_drop j bs]
  unfold cnt10
  rw [List.countP_append]; omega
theorem cnt_le_len (bs : List UInt8) : cnt10 bs ≤ bs.length := List.countP_le_length
theorem last_take {bs : List UInt8} {q : Nat} (h : q < bs.length) : (bs.take (q + 1)).getLast? = some bs[q] := by
  rw [List.getLast?_eq_getElem?, List.length_take, show min (q + 1) bs.length - 1 = q by omega, List.getElem?_take, if_pos (by omega), List.getElem?_eq_getElem h]
theorem cnt_enc {seed : Int} {es : List Ent} (hr : Right seed es) : cnt10 (encL seed es) = 1 + es.length := by
  have hE : encL seed es = headL seed ++ 10 :: linesL es := by unfold encL; simp
  rw [hE, cnt_hit (head_free seed), cnt_lines (fun e he => right_may hr e he)]
set_option maxRecDepth 100000 in
set_option maxHeartbeats 4000000 in
theorem law_Torn (seed : Int) (h0 : 0 ≤ seed) (h1 : seed < 18446744073709551616) (A : Option Addr) (n c : Nat) (cut : Int) (es : List Ent) (ok : Nat → Prop) (w : World) (hs : Sl entR ok w A n es) (hn : n ≤ maxLen) (hv : VarsA w) :
    Calls Tryd.prog 6 #[.int .u64 seed, .slice A n c, .int .i64 cut] w fun e w' => e = .returned (.bool true) ∧ Ext w w' := by
  have Hs := Lib.hid hs
  have Hv := Lib.hid hv
  have Hn := Lib.hid hn
  have Hseed := Lib.hid (And.intro h0 h1)
  clear hs hv hn h0 h1
  cases hf : fewB es
  · go_enter Tryd.func6, Tryd.ntmps6
    go_wp2_with (first | (go_at_call 8; refine (law_lives _ Hv.out.pow).mono ?_; rintro _ w1 ⟨rfl, hx1⟩; have Hx1 := Lib.hid hx1; clear hx1) | (go_at_call 9; refine (ref_Few A n c es ok _ (Hs.out.ext Hx1.out) Hn.out).mono ?_; rw [hf]; rintro _ w2 ⟨rfl, rfl⟩))
    go_ret
    exact ⟨rfl, Hx1.out⟩
  obtain ⟨hl, hin⟩ := fewB_in hf
  have hnl : n ≤ 31 := by have := Hs.out.1; omega
  have Hfew := Lib.hid (show ∀ e ∈ es, FewE e from fun e he => ⟨(hin e he).2.1, (hin e he).2.2.2, (hin e he).2.2.1⟩)
  clear hin
  go_enter Tryd.func6, Tryd.ntmps6
  go_wp2_with (first
    | (go_at_call 8; refine (law_lives _ Hv.out.pow).mono ?_; rintro _ w1 ⟨rfl, hx1⟩; have Hx1 := Lib.hid hx1; clear hx1)
    | (go_at_call 9; refine (ref_Few A n c es ok _ (Hs.out.ext Hx1.out) Hn.out).mono ?_; rw [hf]; rintro _ w2 ⟨rfl, rfl⟩)
    | (go_at_call 10; refine (chain_New seed _).mono ?_; rintro _ w2 ⟨rfl, hch2, hx2⟩; have Hch2 := Lib.hid hch2; have Hx2 := Lib.hid (Hx1.out.trans hx2); clear hch2 hx2))
  have hbw : w.heap.size ≤ w1.heap.size := Hx1.out.size
  generalize w1.heap.size = b at *
  clear hf
  go_loopw [8] (fun i wr => ∃ (k : Nat) (es' : List Ent) (vc : Value), k ≤ n ∧ i = .int .i64 (k : Int) ∧ CAt seed k es' ∧ ChainAt wr b seed es' vc ∧ Ext w wr) (fun i _ => n - (intOf i).toNat)
  case atStart => exact ⟨0, [], .slice none 0 0, Nat.zero_le _, rfl, CAt.zero seed, Hch2.out, Hx2.out⟩
  case round =>
    obtain ⟨k, es', vc, hk, rfl, hat, hch, hx⟩ := hrel
    have Hat := Lib.hid hat
    have Hch := Lib.hid hch
    have Hx := Lib.hid hx
    have hlen := hat.len
    clear hat hch hx
    by_cases hlt : k < n
    · obtain ⟨b', o, e, A', c', rfl, hb', ho, he, hc', hs', d0, d1, d2, d3, d4⟩ := Hs.out.ent (k := k) (by omega)
      have i0 : (0 : Int) ≤ (k : Int) := by omega
      have i1 : (k : Int) < (n : Int) := by omega
      have HA := Lib.hid (fun (W : World) (hx : Ext wr W) => chain_Add_any (fun _ => True) b seed es' vc e A' c' ok W ((ChainX.of Hch.out).ext hx) (fun _ _ => trivial) (by omega) ((hs'.ext Hx.out).ext hx) (Hfew.out e (List.mem_of_getElem? he)) ((Hv.out.pow.ext Hx.out).ext hx))
      have Hn1 := Lib.hid (Hat.out.add (Hfew.out e (List.mem_of_getElem? he)))
      have Hor := Lib.hid (Old.of_ext Hx.out)
      clear he hs' d4
      go_upto_region 11 with fail
      go_region_held3 (fun w' => w.heap.size ≤ w'.heap.size ∧ ∀ p : Addr, p.block < w.heap.size → w'.cell? p = w.cell? p) (repeat (first | with_reducible assumption | with_reducible exact Hor.out | with_reducible refine Old.drew ?_)) ((go_at_call 13; refine (HA.out _ (by repeat (first | with_reducible exact Keeps.refl _ _ | with_reducible refine Keeps.drew ?_ | with_reducible refine Keeps.drewN ?_ _ | with_reducible refine Keeps.alloc ?_ _))).mono ?_; rintro _ w3 ⟨rv, v3, rfl, hch3, hk3, _⟩; have hx3 := chain_ext ((ChainX.of Hch.out).ext (by repeat (first | with_reducible exact Keeps.refl _ _ | with_reducible refine Keeps.drew ?_ | with_reducible refine Keeps.drewN ?_ _ | with_reducible refine Keeps.alloc ?_ _))) hbw (Keeps.drew Hx.out) hk3; have ho3 : Old w w3 := Old.of_ext hx3))
      all_goals
        have Hch3 := Lib.hid hch3.at_
        have Hx3 := Lib.hid hx3
        clear hch3 hx3 hk3
        go_wp2_with fail
        go_roundw
        case rel => exact ⟨k + 1, _, v3, by omega, by go_num, Hn1.out, Hch3.out, Hx3.out⟩
        case measure => simp [intOf]; omega
    · obtain rfl : k = n := by omega
      have hl31 : es'.length ≤ 31 := by omega
      have henc := Hat.out.enc_len (by omega) Hseed.out.2
      obtain ⟨bs, hbs⟩ : ∃ bs, bs = encL seed es' := ⟨_, rfl⟩
      rw [← hbs] at henc
      have hpos : 0 < bs.length := by rw [hbs]; unfold encL; simp; omega
      have HE := chain_Encode b seed Hseed.out.1 Hseed.out.2 es' vc wr Hch.out (by omega) Hat.out.ok (Hv.out.pow.ext Hx.out)
      rw [← hbs] at HE
      have HE := Lib.hid HE
      have HP := Lib.hid (fun (p : List UInt8) (hp : p <+: bs) => decD_prefix Hseed.out.1 Hseed.out.2 Hat.out.right Hat.out.sums (p := p) (by rw [← hbs]; exact hp))
      have hcnt : cnt10 bs = 1 + es'.length := by rw [hbs]; exact cnt_enc Hat.out.right
      have Hcnt := Lib.hid hcnt
      have Hit := Lib.hid (show ∀ e ∈ es', e.items.length ≤ 1000 from fun e he => (Hat.out.ok e he).n)
      clear hbs hcnt
      go_wp2_with fail
      refine HE.out.mono ?_
      rintro _ w3 ⟨A3, n3, c3, rfl, hb3, hx3⟩
      have hn3 := hb3.1
      obtain ⟨g, rfl, hg1, hg2, hnc, hcells⟩ := hb3.cells (by omega)
      have Hb3 := Lib.hid hb3
      have Hx3 := Lib.hid (Hx.out.trans hx3)
      have Hc3 := Lib.hid (Hch.out.ext hx3)
      have Hcells := Lib.hid (show ∀ (j : Nat) (hj : j < bs.length), w3.cell? ⟨g, j, none⟩ = some (.int .u8 (bs[j].toNat : Int)) from fun j hj => by
        have := hcells j (byteV bs[j]) (by rw [List.getElem?_map, List.getElem?_eq_getElem hj]; rfl)
        exact this)
      clear hb3 hx3 hcells HE
      by_cases hc1 : cut < 0
      · go_wp2_with fail
        go_ret
        exact ⟨rfl, Hx3.out⟩
      by_cases hc2 : (n3 : Int) < cut
      · go_wp2_with fail
        go_ret
        exact ⟨rfl, Hx3.out⟩
      obtain ⟨q, rfl⟩ : ∃ q : Nat, cut = q := ⟨cut.toNat, by omega⟩
      have hq : q ≤ n3 := by omega
      go_wp2_with fail
      go_loopw [10, 11] (fun ln i wr' => ∃ j : Nat, j ≤ q ∧ i = .int .i64 (j : Int) ∧ ln = .int .i64 (cnt10 (bs.take j) : Int) ∧ wr' = w3) (fun _ i _ => q - (intOf i).toNat)
      case atStart => exact ⟨0, Nat.zero_le _, rfl, rfl, rfl⟩
      case round =>
        obtain ⟨j, hj, rfl, rfl, rfl⟩ := hrel
        by_cases hjq : j < q
        · have hjb : j < bs.length := by omega
          have hcell := Hcells.out j hjb
          have hst := cnt_step hjb
          have hcl := cnt_le_len (bs.take j)
          have hcl2 : (bs.take j).length ≤ 500000 := by rw [List.length_take]; omega
          obtain ⟨C, hC⟩ : ∃ C, C = cnt10 (bs.take j) := ⟨_, rfl⟩
          rw [← hC] at hst hcl ⊢
          have Hst := Lib.hid hst
          have Hbe := Lib.hid (byte_eq bs[j] 10)
          have i0 : (0 : Int) ≤ (j : Int) := by omega
          have i1 : (j : Int) < (n3 : Int) := by omega
          clear hC hst
          cases h5 : ((bs[j].toNat : Int) == 10)
          · have h6 : (bs[j] == 10) = false := by have := Hbe.out; rw [← this]; exact h5
            go_wp2_with fail
            go_roundw
            case rel => exact ⟨j + 1, by omega, by go_num, by rw [Hst.out, h6]; rfl, trivial⟩
            case measure => simp [intOf]; omega
          · have h6 : (bs[j] == 10) = true := by have := Hbe.out; rw [← this]; exact h5
            go_wp2_with fail
            go_roundw
            case rel => exact ⟨j + 1, by omega, by go_num, by rw [Hst.out, h6]; go_num, trivial⟩
            case measure => simp [intOf]; omega
        · obtain rfl : j = q := by omega
          have hB := Hb3.out.take hq
          have hD0 := HP.out (bs.take j) (List.take_prefix _ _)
          have hcle := cnt_le_take bs j
          rw [Hcnt.out] at hcle
          have hz0 : j = 0 → cnt10 (bs.take j) = 0 := by rintro rfl; rfl
          obtain ⟨S, hS⟩ : ∃ S : ByteArray, S = ⟨(bs.take j).toArray⟩ := ⟨_, rfl⟩
          have hSd : S.data.toList = bs.take j := by rw [hS]
          have hSz : S.size ≤ 500000 := by
            have h9 : S.data.toList.length = S.size := by simp
            rw [hSd, List.length_take] at h9
            omega
          have HD := aud_Decode S (some ⟨g, 0, none⟩) j c3 wr hSz (Hv.out.ext Hx3.out) (fun W hxW => by rw [hS]; exact string_of_bts (P := Tryd.prog) W 39 9 5 _ c3 Tryd.underlying39 Tryd.underlying5 Tryd.underlying9 (hB.ext hxW))
          rw [hSd, hD0] at HD
          have i0 : (0 : Int) ≤ (j : Int) := by omega
          have i1 : (j : Int) ≤ (c3 : Int) := by omega
          have Hlst := Lib.hid (fun (hj : 0 < j) => show (bs.take j).getLast? = some (bs[j - 1]'(by omega)) by
            have h9 := last_take (bs := bs) (q := j - 1) (by omega)
            rw [show j - 1 + 1 = j by omega] at h9
            exact h9)
          clear hB hD0 hS hSd hSz
          by_cases hlast : (bs.take j).getLast? = some 10
          · rw [if_pos hlast] at HD
            have hj0 : 0 < j := by
              rcases Nat.eq_zero_or_pos j with rfl | h9
              · simp at hlast
              · exact h9
            have hb10 : (bs[j - 1]'(by omega)) = 10 := by
              have h9 := Hlst.out hj0
              rw [hlast] at h9
              injection h9 with h9
              exact h9.symm
            have hC1 : 1 ≤ cnt10 (bs.take j) := by
              unfold cnt10
              exact List.countP_pos_iff.2 ⟨10, List.mem_of_getLast? hlast, rfl⟩
            have hcell3 := Hcells.out (j - 1) (by omega)
            rw [hb10] at hcell3
            obtain ⟨C, hC⟩ : ∃ C, C = cnt10 (bs.take j) := ⟨_, rfl⟩
            rw [← hC] at HD hC1 hcle ⊢
            have HD := Lib.hid HD
            have Hcell3 := Lib.hid hcell3
            have hj0' : (0 : Int) < (j : Int) := by omega
            have t0 : ((j : Int) == 0) = false := by rw [beq_eq_false_iff_ne]; omega
            clear hlast hb10 hC hcell3 hz0 Hlst
            go_wp2_with fail
            refine HD.out.mono ?_
            rintro _ w4 ⟨_, h4⟩
            obtain ⟨b2, v2, rfl, hb2, hc2, hx4⟩ := h4 seed _ rfl
            have hcell4 := (hx4.cell (p := ⟨g, j - 1, none⟩) hg2 trivial).trans Hcell3.out
            have Hx4 := Lib.hid (Hx3.out.trans hx4)
            have Hc4 := Lib.hid (Hc3.out.ext hx4)
            have hlt1 : (es'.take (C - 1)).length = C - 1 := by rw [List.length_take]; omega
            have Hit2 := Lib.hid (show ∀ e ∈ es'.take (C - 1), e.items.length ≤ 1000 from fun e he => Hit.out e (List.mem_of_mem_take he))
            have CE := chain_Entries b2 seed (es'.take (C - 1)) v2 w4 hc2 (by omega) Hit2.out
            rw [hlt1] at CE
            have CE := Lib.hid CE
            have j0 : (0 : Int) ≤ (C : Int) - 1 := by omega
            generalize hT : es'.take (C - 1) = T at *
            have HT := Lib.hid hlt1
            have HT2 := Lib.hid hT
            clear h4 hc2 hx4 HD hlt1 hT
            go_wp2_with fail
            refine CE.out.mono ?_
            rintro _ w5 ⟨A5, c5, rfl, hown5, hx5⟩
            have Hx5 := Lib.hid hx5
            have CT := Lib.hid (law_told A5 (C - 1) c5 T (fun k => k < _) w5 (hown5.sl (ok' := fun _ => True) (fun _ _ _ _ => trivial) (fun _ _ _ => trivial)).below (by omega) (fun _ h => h))
            clear hown5 hx5
            go_wp2_with fail
            refine CT.out.mono ?_
            rintro _ w6 ⟨v6, rfl, hown6, hx6⟩
            obtain ⟨A6, c6, rfl⟩ := hown6.form
            have Hown6 := Lib.hid hown6
            have Hx6 := Lib.hid (Hx5.out.trans hx6)
            clear hown6 hx6 CT
            have CF := Lib.hid (chain_Entries b seed es' vc w6 (Hc4.out.ext Hx6.out) (by omega) Hit.out)
            go_wp2_with fail
            refine CF.out.mono ?_
            rintro _ w7 ⟨A7, c7, rfl, hown7, hx7⟩
            have hcap7 := hown7.cap
            have j1 : (C : Int) - 1 ≤ (c7 : Int) := by omega
            have Hx7 := Lib.hid hx7
            have hsl7 := (hown7.sl (ok' := fun _ => True) (fun _ _ _ _ => trivial) (fun _ _ _ => trivial)).to_ (k := C - 1) (by omega)
            rw [HT2.out] at hsl7
            have CG := Lib.hid (law_told A7 (C - 1) c7 T (fun k => k < _) w7 hsl7.below (by omega) (fun _ h => h))
            clear hown7 hx7 CF hsl7
            go_wp2_with fail
            refine CG.out.mono ?_
            rintro _ w8 ⟨v8, rfl, hown8, hx8⟩
            obtain ⟨A8, c8, rfl⟩ := hown8.form
            have Hx8 := Lib.hid hx8
            have CS := Lib.hid (same_yes A6 A8 (C - 1) c6 c8 T (fun _ => True) (fun _ => True) w8 (((Hown6.out.ext Hx7.out).ext hx8).sl (fun _ _ _ _ => trivial) (fun _ _ _ => trivial)) (hown8.sl (fun _ _ _ _ => trivial) (fun _ _ _ => trivial)) (by omega) Hit2.out)
            clear hown8 hx8 CG
            go_wp2_with fail
            refine CS.out.mono ?_
            rintro _ w9 ⟨rfl, m9, rfl⟩
            go_wp2_with fail
            go_ret
            exact ⟨rfl, ((Hx4.out.trans Hx6.out).trans (Hx7.out.trans Hx8.out)).drewN m9⟩
          · rw [if_neg hlast] at HD
            obtain ⟨C, hC⟩ : ∃ C, C = cnt10 (bs.take j) := ⟨_, rfl⟩
            rw [← hC] at HD hcle hz0 ⊢
            have HD := Lib.hid HD
            by_cases hj0 : j = 0
            · subst hj0
              have t0 : (((0 : Nat) : Int) == 0) = true := rfl
              clear hlast hC Hlst
              go_wp2_with fail
              refine HD.out.mono ?_
              rintro _ w4 ⟨h4, _⟩
              obtain ⟨rfl, hx4⟩ := h4 rfl
              have Hx4 := Lib.hid (Hx3.out.trans hx4)
              clear h4 hx4 HD
              go_wp2_with fail
              go_ret
              exact ⟨rfl, Hx4.out⟩
            · have hj0' : (0 : Int) < (j : Int) := by omega
              have t0 : ((j : Int) == 0) = false := by rw [beq_eq_false_iff_ne]; omega
              have hne : (bs[j - 1]'(by omega)) ≠ 10 := fun h9 => hlast (by rw [Hlst.out (by omega), h9])
              have t1 : (((bs[j - 1]'(by omega)).toNat : Int) == 10) = false := by
                have h9 := byte_eq (bs[j - 1]'(by omega)) 10
                have h8 : ((bs[j - 1]'(by omega)) == 10) = false := by simpa using hne
                rw [h8] at h9
                exact h9
              have t2 : (((bs[j - 1]'(by omega)).toNat : Int) != 10) = true := by rw [bne, t1]; rfl
              have Hcell3 := Lib.hid (Hcells.out (j - 1) (by omega))
              generalize (bs[j - 1]'(by omega)).toNat = u at *
              clear hlast hC Hlst hne
              go_wp2_with fail
              refine HD.out.mono ?_
              rintro _ w4 ⟨h4, _⟩
              obtain ⟨rfl, hx4⟩ := h4 rfl
              have hcell4 := (hx4.cell (p := ⟨g, j - 1, none⟩) hg2 trivial).trans Hcell3.out
              have Hx4 := Lib.hid (Hx3.out.trans hx4)
              clear h4 hx4 HD
              go_wp2_with fail
              go_ret
              exact ⟨rfl, Hx4.out⟩
end Go.Proofs.YtkfcbafmefdhmaaDoor
