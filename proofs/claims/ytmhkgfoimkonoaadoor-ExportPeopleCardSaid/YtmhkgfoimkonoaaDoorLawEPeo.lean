/-
  What is proved here: the law ExportPeople returns true, whatever the events, and leaves old memory as it was. Conditions: no text is longer than a text can be; the library's variables, and the names of the kinds, hold what their text lays.
-/
import Derived.Test.YtmhkgfoimkonoaaDoorExV
namespace Go.Proofs.YtmhkgfoimkonoaaDoor
open Go Go.RowKit Go.Proofs
attribute [local go_sem ↓] Go.wp_at_zero Go.wp_at_succ
def hasP (PL : List ByteArray) (e : Ev) : Bool := noneB e.person || PL.any (fun p => p == e.person)
theorem hasP_step {PL : List ByteArray} {k : Nat} {p : ByteArray} (h : PL[k]? = some p) (l : List Ev) (e : Ev) : e ∈ l.filter (hasP (PL.take k)) ++ l.filter (fun e => e.person == p) ↔ e ∈ l.filter (hasP (PL.take (k + 1))) := by
  rw [List.mem_append, List.mem_filter, List.mem_filter, List.mem_filter]
  have h1 : hasP (PL.take (k + 1)) e = (hasP (PL.take k) e || (e.person == p)) := by
    unfold hasP
    rw [List.take_add_one, h, List.any_append]
    have h2 : (p == e.person) = (e.person == p) := by
      rw [Bool.eq_iff_iff, beqB_iff, beqB_iff]; exact eq_comm
    simp [h2, Bool.or_assoc]
  rw [h1, Bool.or_eq_true]
  constructor
  · rintro (⟨h2, h3⟩ | ⟨h2, h3⟩)
    · exact ⟨h2, .inl h3⟩
    · exact ⟨h2, .inr h3⟩
  · rintro ⟨h2, h3 | h3⟩
    · exact .inl ⟨h2, h3⟩
    · exact .inr ⟨h2, h3⟩
def PeoOk (l : List Ev) (PL : List ByteArray) : Prop := ∀ x, x ∈ PL ↔ ∃ e ∈ l, noneB e.person = false ∧ e.person = x
set_option maxRecDepth 100000 in
set_option maxHeartbeats 8000000 in
theorem law_EPeo (A : Option Addr) (n c : Nat) (l : List Ev) (ok : Nat → Prop) (w : World) (hs : Sl evR ok w A n l) (hn : n ≤ 140737488355328) (hwf : ∀ e ∈ l, EvWf e) (hv : Vars w) :
    Calls Tryd.prog 9 #[.slice A n c] w fun r w' => r = .returned (.bool true) ∧ Ext w w' := by
  have Hs := Lib.hid hs
  have Hl := Lib.hid hs.1
  have Hv := Lib.hid hv
  obtain ⟨i0, hi0, hz0, hz1, hz2⟩ := info_part3 info_apiEv
  by_cases h20 : 20 < n
  · clear hs hv hwf
    go_enter Tryd.func9, Tryd.ntmps9
    go_wp2_with (go_at_call 15; refine (law42_lives _ Hv.out).mono ?_; rintro _ w1 ⟨rfl, hx1⟩; have Hx1 := Lib.hid hx1; clear hx1)
    go_ret
    exact ⟨rfl, Hx1.out⟩
  cases hhv : heavyE l
  case true =>
    have GH := Lib.hid (fun (W : World) (h : Sl evR ok W A n l) => show Calls Tryd.prog 16 #[.slice A n c] W (fun r w' => r = .returned (.bool true) ∧ Ext W w') by rw [← hhv]; exact law_heavy A n c l ok W h hn hwf)
    clear hs hv hwf hhv
    go_enter Tryd.func9, Tryd.ntmps9
    go_wp2_with (first | (go_at_call 15; refine (law42_lives _ Hv.out).mono ?_; rintro _ w1 ⟨rfl, hx1⟩; have Hx1 := Lib.hid hx1; clear hx1) | (go_at_call 16; refine (GH.out _ (Hs.out.ext Hx1.out)).mono ?_; rintro _ w2 ⟨rfl, hx2⟩; have Hx2 := Lib.hid (Hx1.out.trans hx2); clear hx2))
    go_ret
    exact ⟨rfl, Hx2.out⟩
  have GH := Lib.hid (fun (W : World) (h : Sl evR ok W A n l) => show Calls Tryd.prog 16 #[.slice A n c] W (fun r w' => r = .returned (.bool false) ∧ Ext W w') by rw [← hhv]; exact law_heavy A n c l ok W h hn hwf)
  obtain ⟨_, hsm⟩ := heavy_no hhv
  have Hsm := Lib.hid hsm
  clear hs hv hwf hhv hsm
  go_enter Tryd.func9, Tryd.ntmps9
  go_wp2_with (first | (go_at_call 15; refine (law42_lives _ Hv.out).mono ?_; rintro _ w1 ⟨rfl, hx1⟩; have Hx1 := Lib.hid hx1; clear hx1) | (go_at_call 16; refine (GH.out _ (Hs.out.ext Hx1.out)).mono ?_; rintro _ w2 ⟨rfl, hx2⟩; have Hx2 := Lib.hid (Hx1.out.trans hx2); clear hx2))
  refine (rf_Alike A n c l ok w2 (Hs.out.ext Hx2.out) (by omega)).mono ?_
  rintro _ w3 ⟨al, rfl, hal, hx3⟩
  have Hx3 := Lib.hid (Hx2.out.trans hx3)
  have Hal := Lib.hid hal
  clear hx3 hal
  cases al
  · go_wp2_with fail
    go_ret
    exact ⟨rfl, Hx3.out⟩
  have HAl := Lib.hid (Hal.out rfl)
  clear Hal
  have hw3 := Hx3.out.size
  go_wp2_with fail
  go_loopw [3, 4, 5] (fun v pv i wr => ∃ (k q m : Nat) (B : Option Addr) (cb : Nat) (D : Option Addr) (cd : Nat) (PL : List ByteArray), k ≤ n ∧ q ≤ k ∧ m ≤ k ∧ i = .int .i64 k ∧ v = .slice B q cb ∧ pv = .slice D m cd ∧ Own evR 30 (fun _ => True) wr w.heap.size (.slice B q cb) q ((l.take k).filter (fun e => noneB e.person)) ∧ Own strR 9 (fun _ => True) wr w.heap.size (.slice D m cd) m PL ∧ PeoOk (l.take k) PL ∧ Ext w wr) (fun _ _ i _ => n - (intOf i).toNat)
  case atStart =>
    exact ⟨0, 0, 0, _, 0, _, 0, [], Nat.zero_le _, Nat.le_refl _, Nat.le_refl _, rfl, rfl, rfl, Own.new_nil (blk_old (blk_new _ _) _) (by omega), Own.new_nil (by first | exact blk_new _ _ | exact blk_new_ _ _ (by simp)) (by omega), fun x => (by simp), (Hx3.out.alloc _).alloc _⟩
  case round =>
    obtain ⟨k, q, m, B, cb, D, cd, PL, hk, hqk, hmk, rfl, rfl, rfl, hown, hpl, hpo, hx⟩ := hrel
    have Hown := Lib.hid hown
    have Hpl := Lib.hid hpl
    have Hpo := Lib.hid hpo
    have Hx := Lib.hid hx
    have hsz := hx.size
    clear hown hpl hpo hx
    by_cases hlt : k < n
    · obtain ⟨b, o, e, rfl, hb, _, he, d0, d1, d2, d3, d4, d5, d6, d7⟩ := (Hs.out.ext Hx.out).ev hlt
      have j0 : (0 : Int) ≤ (k : Int) := by omega
      have j1 : (k : Int) < (n : Int) := by omega
      have Hf := Lib.hid (filter_snoc (p := fun e => noneB e.person) he)
      have Htk := Lib.hid (show ∀ x, x ∈ l.take (k + 1) ↔ x ∈ l.take k ∨ x = e from fun x => by rw [List.take_add_one, he, List.mem_append]; simp)
      have hpn : (e.person.toList == ([] : List UInt8)) = noneB e.person := eq_nil_text e.person
      have hpn2 : (e.person.toList == (⟨#[]⟩ : ByteArray).toList) = noneB e.person := by rw [show (⟨#[]⟩ : ByteArray).toList = [] by rw [ByteArray.toList_eq]]; exact hpn
      clear he
      cases hnp : noneB e.person <;> rw [hnp] at hpn hpn2
      · have Hst := Lib.hid (show (l.take (k + 1)).filter (fun e => noneB e.person) = (l.take k).filter (fun e => noneB e.person) by rw [Hf.out]; simp [hnp])
        have Hpu := Lib.hid (fun (W : World) (h : Ext wr W) => rf_Put D m cd PL e.person w.heap.size W (Hpl.out.ext h) (by omega))
        have Hnew := Lib.hid (show ∀ l', (∀ x, x ∈ l' ↔ x ∈ PL ∨ x = e.person) → PeoOk (l.take (k + 1)) l' from fun l' h x => by
          rw [h x, Hpo.out x]
          constructor
          · rintro (⟨y, h1, h2, h3⟩ | h1)
            · exact ⟨y, (Htk.out y).2 (.inl h1), h2, h3⟩
            · exact ⟨e, (Htk.out e).2 (.inr rfl), hnp, h1.symm⟩
          · rintro ⟨y, h1, h2, h3⟩
            rcases (Htk.out y).1 h1 with h4 | h4
            · exact .inl ⟨y, h4, h2, h3⟩
            · rw [h4] at h3; exact .inr h3.symm)
        clear hnp
        go_wp2_with fail
        refine (Hpu.out wr (Keeps.refl _ _)).mono ?_
        rintro _ w5 ⟨D5, m5, c5, rfl, hm5, l5, hl5, ⟨base5, hb5, hown5⟩, hx5⟩
        have Hx5 := Lib.hid hx5
        have Hpl5 := Lib.hid (hown5.le (base' := w.heap.size) (by rcases hb5 with h | h <;> rw [h] <;> omega))
        have Hpo5 := Lib.hid (Hnew.out l5 hl5)
        clear hx5 hown5 hb5 hl5
        go_wp2_with fail
        go_roundw
        case rel => exact ⟨k + 1, q, m5, B, cb, D5, c5, l5, by omega, by omega, by omega, by go_num, rfl, rfl, by rw [Hst.out]; exact Hown.out.ext Hx5.out, Hpl5.out, Hpo5.out, Hx.out.trans Hx5.out⟩
        case measure => simp [intOf]; omega
      · have Hst := Lib.hid (show (l.take (k + 1)).filter (fun e => noneB e.person) = (l.take k).filter (fun e => noneB e.person) ++ [e] by rw [Hf.out]; simp [hnp])
        have Hnew := Lib.hid (show PeoOk (l.take (k + 1)) PL from fun x => by
          rw [Hpo.out x]
          constructor
          · rintro ⟨y, h1, h2, h3⟩
            exact ⟨y, (Htk.out y).2 (.inl h1), h2, h3⟩
          · rintro ⟨y, h1, h2, h3⟩
            rcases (Htk.out y).1 h1 with h4 | h4
            · exact ⟨y, h4, h2, h3⟩
            · rw [h4, hnp] at h2; cases h2)
        clear hnp
        go_wp2_with (at_builtin; refine wpList_append_Own (ok := fun _ => True) (R := evR) _ rfl (.tmp 44) (.tmp 49) 22 rfl 30 i0 _ 96 w.heap.size Tryd.underlying22 hi0 hz0 hz1 hz2 rfl (by decide) rfl (Hown.out.alloc _) _ 1 1 [e] rfl (Srcs.one_new rfl (by first | exact blk_new _ _ | exact blk_new_ _ _ (by simp)) rfl) (by omega) (by decide) (by first | omega | (simp; omega)) ?_; intro A8 c8 w8 hown8 hg8 hat8; have Hown8 := Lib.hid hown8; have Hx8 := Lib.hid (show Ext w w8 from Keeps.grown (Hx.out.alloc _) hg8 (fun g hg hl => by have := (Hown.out.lt g hg).1; omega)); have Hpl8 := Lib.hid ((Hpl.out.alloc _).flat (ok' := fun _ => True) strR_flat (fun g hg => hg8.block g ((Hpl.out.alloc _).lt g hg).2 (fun e9 => Own.ne_own Hpl.out Hown.out (by decide) hg e9.symm))); clear hown8 hg8 hat8)
        go_roundw
        case rel => exact ⟨k + 1, q + 1, m, A8, c8, D, cd, PL, by omega, by omega, by omega, by go_num, rfl, rfl, by rw [Hst.out]; exact Hown8.out, Hpl8.out, Hnew.out, Hx8.out⟩
        case measure => simp [intOf]; omega
    · obtain rfl : k = n := by omega
      have hown9 := Hown.out
      have hpo9 := Hpo.out
      rw [List.take_of_length_le (Nat.le_of_eq Hl.out)] at hown9 hpo9
      have Hps := Lib.hid Hpl.out.strSl
      have Hpn := Lib.hid (show ∀ p ∈ PL, noneB p = false from fun p hp => by
        obtain ⟨e, _, h1, h2⟩ := (hpo9 p).1 hp
        rw [← h2]; exact h1)
      have HallP := Lib.hid (show allE (l.filter (hasP PL)) = allE l from allE_eq fun e => by
        rw [List.mem_filter]
        refine ⟨fun h => h.1, fun h => ⟨h, ?_⟩⟩
        unfold hasP
        cases hnp : noneB e.person
        · have h9 : PL.any (fun p => p == e.person) = true := List.any_eq_true.2 ⟨e.person, (hpo9 e.person).2 ⟨e, h, hnp, rfl⟩, beqB_self _⟩
          rw [h9]; rfl
        · rfl)
      have Hpll := Lib.hid Hpl.out.1
      obtain ⟨V, hV⟩ : ∃ V, V = wr := ⟨_, rfl⟩
      rw [← hV] at Hx Hps ⊢
      have H0 := Lib.hid (show Calls Tryd.prog 17 #[.slice B q cb] V (fun r w' => r = .returned (.string (textB (allE (l.filter (hasP (PL.take 0)))))) ∧ Ext V w') by
        have h9 := ex_All B q cb _ _ V (by rw [hV]; exact hown9.evSl) (by omega) (fun e he => Hsm.out e (List.mem_filter.1 he).1) (Hv.out.ext Hx.out)
        have h8 : l.filter (hasP (PL.take 0)) = l.filter (fun e => noneB e.person) := by congr 1; funext e; simp [hasP]
        rw [h8]; exact h9)
      clear hown9 hpo9 hV Hown Hpl Hpo
      go_wp2_with fail
      refine H0.out.mono ?_
      rintro _ w5 ⟨rfl, hx5⟩
      have Hx5 := Lib.hid hx5
      clear hx5
      go_wp2_with fail
      go_loopw [6, 7] (fun v i wr => ∃ (j : Nat) (T : ByteArray), j ≤ m ∧ i = .int .i64 j ∧ v = .string T ∧ T = textB (allE (l.filter (hasP (PL.take j)))) ∧ Ext V wr) (fun _ i _ => m - (intOf i).toNat)
      case atStart => exact ⟨0, _, Nat.zero_le _, rfl, rfl, rfl, Hx5.out⟩
      case round =>
        obtain ⟨j, T, hj, rfl, rfl, hT, hxv⟩ := hrel
        have HT := Lib.hid hT
        have Hxv := Lib.hid hxv
        clear hT hxv
        by_cases hjm : j < m
        · obtain ⟨bp, op, p, rfl, hbp, _, hp, dp⟩ := (Hps.out.ext Hxv.out).str hjm
          have HD := Lib.hid dp
          have i0' : (0 : Int) ≤ (j : Int) := by omega
          have i1' : (j : Int) < (m : Int) := by omega
          have hpn := Hpn.out p (List.mem_of_getElem? hp)
          have Hpe := Lib.hid (ex_Person p A k c l ok wr hpn (Hs.out.ext (Hx.out.trans Hxv.out)) (by omega) Hsm.out (Hv.out.ext (Hx.out.trans Hxv.out)))
          have Hstep := Lib.hid (show allE (l.filter (hasP (PL.take j)) ++ l.filter (fun e => e.person == p)) = allE (l.filter (hasP (PL.take (j + 1)))) from allE_eq (hasP_step hp l))
          obtain ⟨F, hF⟩ : ∃ F, F = l.filter (fun e => e.person == p) := ⟨_, rfl⟩
          have HFp := Lib.hid (show ∀ e ∈ allE F, e.person = p from fun e he => by
            have h1 := ((join_mem (filter_may F)).1 he).1
            have h2 := (List.mem_filter.1 h1).1
            rw [hF] at h2
            exact beqB_iff.1 (List.mem_filter.1 h2).2)
          have HFl := Lib.hid (show F.length ≤ 20 by rw [hF]; have := List.length_filter_le (fun e : Ev => e.person == p) l; have := Hl.out; omega)
          have HFm := Lib.hid (show ∀ e ∈ F, e ∈ l from fun e he => by rw [hF] at he; exact (List.mem_filter.1 he).1)
          rw [← hF] at Hpe Hstep
          obtain ⟨TP, hTP⟩ : ∃ TP, TP = textB (allE F) := ⟨_, rfl⟩
          have HTP := Lib.hid hTP
          have Hip := Lib.hid (imp_any hTP)
          have Hsz := Lib.hid (show TP.size ≤ 999999 by rw [hTP]; exact text_size (by have := HFl.out; omega))
          rw [← hTP] at Hpe
          clear hp hpn hF hTP
          go_wp2_with fail
          refine Hpe.out.mono ?_
          rintro _ w6 ⟨rfl, hx6⟩
          have Hx6 := Lib.hid (Hxv.out.trans hx6)
          have Him := Lib.hid (ex_Import TP w6 Hsz.out (Hv.out.ext (Hx.out.trans Hx6.out)))
          unfold ImPost at Him
          rw [Hip.out] at Him
          have dp6 := (hx6.cell (p := ⟨bp, op + j, none⟩) hbp trivial).trans HD.out
          have hbp6 := Nat.lt_of_lt_of_le hbp hx6.size
          clear hx6 dp
          go_wp2_with fail
          refine Him.out.mono ?_
          rintro _ w7 ⟨B7, k7, c7, rfl, hown7, hx7⟩
          have Hx7 := Lib.hid (Hx6.out.trans hx7)
          have Hs7 := Lib.hid (show Sl evR _ w7 B7 k7 (allE F) from hown7.evSl)
          have hk7 : k7 ≤ 1000 := by have h1 : (allE F).length = k7 := hown7.1; have h2 := allE_len F; have h3 := HFl.out; omega
          have HD7 := Lib.hid ((hx7.cell (p := ⟨bp, op + j, none⟩) hbp6 trivial).trans dp6)
          have hbp7 := Nat.lt_of_lt_of_le hbp6 hx7.size
          clear hx7 hown7 dp6
          go_wp2_with fail
          go_loopw [12] (fun i wr => ∃ z : Nat, z ≤ k7 ∧ i = .int .i64 z ∧ Ext w7 wr) (fun i _ => k7 - (intOf i).toNat)
          case atStart => exact ⟨0, Nat.zero_le _, rfl, Keeps.refl _ _⟩
          case round =>
            obtain ⟨z, hz, rfl, hxz⟩ := hrel
            have Hxz := Lib.hid hxz
            have dpz := (hxz.cell (p := ⟨bp, op + j, none⟩) hbp7 trivial).trans HD7.out
            have hbpz := Nat.lt_of_lt_of_le hbp7 hxz.size
            clear hxz
            by_cases hzk : z < k7
            · obtain ⟨be, oe, e, rfl, hbe, _, hee, d0, d1, d2, d3, d4, d5, d6, d7⟩ := (Hs7.out.ext Hxz.out).ev hzk
              have z0 : (0 : Int) ≤ (z : Int) := by omega
              have z1 : (z : Int) < (k7 : Int) := by omega
              have hep := HFp.out e (List.mem_of_getElem? hee)
              have hpe' : (e.person.toList == p.toList) = true := by rw [hep]; simp
              clear hee hep
              go_wp2_with fail
              refine wp_region_ext wr (Keeps.refl _ _) (by kernel_rfl) (by kernel_rfl) ?_
              have hcell := fun (y : XW wr) => y.cell
              repeat (go_big_quiet_step (fail))
              refine wpQuiet_nil ?_
              rintro _ ⟨y0, rfl⟩
              clear hcell d0 d1 d2 d3 d4 d5 d6 d7 dpz
              go_wp2_with fail
              go_roundw
              case rel => exact ⟨z + 1, by omega, by go_num, Hxz.out.trans y0.h⟩
              case measure => simp [intOf]; omega
            · have Hmr := Lib.hid (ex_Merge_all (l.filter (hasP (PL.take j))) F wr (by have := List.length_filter_le (hasP (PL.take j)) l; have := Hl.out; omega) (by have := HFl.out; omega) (alike_sub HAl.out (fun e he => (List.mem_append.1 he).elim (fun h => (List.mem_filter.1 h).1) (HFm.out e))) (Hv.out.ext (Hx.out.trans (Hx7.out.trans Hxz.out))) T TP _ HT.out HTP.out rfl)
              rw [Hstep.out] at Hmr
              obtain ⟨T2, hT2⟩ : ∃ T2, T2 = textB (allE (l.filter (hasP (PL.take (j + 1))))) := ⟨_, rfl⟩
              rw [← hT2] at Hmr
              have HT2 := Lib.hid hT2
              clear hT2
              go_wp2_with fail
              refine Hmr.out.mono ?_
              rintro _ w9 ⟨rfl, hx9⟩
              have Hx9 := Lib.hid (Hx7.out.trans (Hxz.out.trans hx9))
              clear hx9
              go_wp2_with fail
              go_roundw
              case rel => exact ⟨j + 1, T2, by omega, by go_num, rfl, HT2.out, Hx9.out⟩
              case measure => simp [intOf]; omega
        · obtain rfl : j = m := by omega
          have hT9 : T = textB (allE l) := by rw [HT.out, List.take_of_length_le (Nat.le_of_eq Hpll.out), HallP.out]
          have H1 := Lib.hid (show Calls Tryd.prog 17 #[.slice A k c] wr (fun r w' => r = .returned (.string T) ∧ Ext wr w') by
            rw [hT9]; exact ex_All A k c l ok wr (Hs.out.ext (Hx.out.trans Hxv.out)) (by omega) Hsm.out (Hv.out.ext (Hx.out.trans Hxv.out)))
          clear hT9 HT
          go_wp2_with fail
          refine H1.out.mono ?_
          rintro _ w9 ⟨rfl, hx9⟩
          have Hx9 := Lib.hid (Hx.out.trans (Hxv.out.trans hx9))
          clear hx9
          go_wp2_with fail
          go_ret
          exact ⟨rfl, Hx9.out⟩
end Go.Proofs.YtmhkgfoimkonoaaDoor
