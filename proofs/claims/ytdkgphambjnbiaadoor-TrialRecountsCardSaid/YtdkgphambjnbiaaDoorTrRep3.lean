/-
  What is proved here: the report of a trial with any events. Conditions: at most a thousand trials, people and events, short texts.
-/
import Derived.Test.YtdkgphambjnbiaaDoorTrRep2
import Derived.Test.YtdkgphambjnbiaaDoorTrId
import Derived.Test.YtdkgphambjnbiaaDoorEvWor
namespace Go.Proofs.YtdkgphambjnbiaaDoor
open Go Go.RowKit Go.Proofs
attribute [local go_sem ↓] Go.wp_at_zero Go.wp_at_succ
theorem look_nil (W : World) (p : ByteArray) : (Instr.lookup 79 (.map none) (.string p) true).run Tryd.prog W = .ok (.tuple #[.int .i64 0, .bool false]) W := by
  have hf : (Instr.findKey 9 (.string p) []).run Tryd.prog W = .ok none W := by
    rcases ((strK (P := Tryd.prog) (kt := 9) Tryd.underlying9)).find W p [] (by simp) with ⟨h, _⟩ | ⟨j, e, _, h, _⟩
    · exact h
    · simp at h
  have hc : (Instr.checkKey true 10000 9 (.string p)).run Tryd.prog W = .ok () W := ((strK (P := Tryd.prog) (kt := 9) Tryd.underlying9)).check W true p
  simp [Instr.lookup, run_underlying Tryd.underlying79, hc, hf, zero_i W, Result.andThen]
theorem li_nil (W : World) {xn : List (ByteArray × Int)} (hxn : xn = []) (p : ByteArray) (x : Option Int) (hx : getM (fun a b : ByteArray => a == b) xn p = x) : (Instr.lookup 79 (.map none) (.string p) true).run Tryd.prog W = .ok (.tuple #[.int .i64 (x.getD 0), .bool x.isSome]) W := by
  subst hxn
  obtain rfl : x = none := by rw [← hx]; rfl
  exact look_nil W p

set_option maxRecDepth 100000 in
set_option maxHeartbeats 4000000 in
theorem rep_any (b m lim : Nat) (v : Value) (outer : List (ByteArray × Nat)) (ts : List Tr) (xs : ByteArray → List (ByteArray × Int)) (name : ByteArray) (w : World) (h : BookX w b m lim v outer ts xs) (hn : ts.length ≤ 1000) (i : Nat) (t : Tr) (hi : ts.findIdx? (fun o => o.name == name) = some i) (ht : ts[i]? = some t) (hwf : TrWf t) (hm : mayT t = true)
    (hex : ∀ p ∈ xs name, inT t p.1 = true ∧ p.1.size < maxLen) (hnx : (xs name).length ≤ 1000) (Al : Option Addr) (n cl : Nat) (l : List Ev) (ok : Nat → Prop) (hs : Sl evR ok w Al n l) (hn2 : n ≤ 1000) (hsm : ∀ e ∈ l, EvSm e) (hmx : Mx w) :
    Calls Tryd.prog 25 #[.pointer (some ⟨b, 0, none⟩), .string name, .slice Al n cl] w fun r w' => ∃ g, r = .returned (.slice (some ⟨g, 0, none⟩) t.arms.length t.arms.length) ∧ w'.heap[g]? = some (.cells (rowsC (rowsE t ((xs name).map (·.1)) (cntL (xs name) l))) 52) ∧ w.heap.size ≤ g ∧ Ext w w' := by
  have Hf := Lib.hid (bk_find_yes b m lim v outer ts xs name w h hn i t hi ht)
  have Hwf := Lib.hid hwf
  have hpt := mayT_parts hm
  have hone := hpt.one
  have hfew := hpt.few
  have Hnd := Lib.hid (armsOk_nodup hpt.arms)
  have Hh := Lib.hid h
  have Hex := Lib.hid hex
  have hmm := @run_makeMap Tryd.prog
  have hmk := made_rows t.arms.length (by omega)
  have Hse := Lib.hid hs
  have HSM := Lib.hid hsm
  have HMx := Lib.hid hmx
  have Hone := Lib.hid hone
  clear h hi ht hwf hm hpt hex hs hsm hmx
  go_enter Tryd.func25, Tryd.ntmps25
  go_wp2_with (go_at_call 39; refine Hf.out.mono ?_; rintro _ w1 ⟨A, c, rfl, hc, hs1, hx1⟩; have Hx1 := Lib.hid hx1; have Hs1 := Lib.hid hs1; clear hx1 hs1)
  have hsz1 : w.heap.size ≤ w1.heap.size := Hx1.out.size
  go_loopw [41] (fun i wr => ∃ (k : Nat) (place : List (ByteArray × Int)), k ≤ t.arms.length ∧ i = .int .i64 k ∧ PlaceAt t.arms k place ∧ RepAt w w1.heap.size (w1.heap.size + 1) (w1.heap.size + 1 + 1) t A c (rows0 t.arms k) place wr) (fun i _ => t.arms.length - (intOf i).toNat)
  case atStart =>
    refine ⟨0, [], Nat.zero_le _, rfl, ⟨by simp, by simp⟩, ⟨blk_old (blk_old (blk_new _ _) _) _, blk_old ?_ _, ?_, ((Hx1.out.alloc _).alloc _).alloc _⟩⟩
    · rw [show rows0 t.arms 0 = List.replicate t.arms.length ⟨⟨#[]⟩, 0, 0, 0⟩ by simp [rows0]]
      exact blk_new' _ _ _ (by simp)
    · have := Mp.new (K := (strK (P := Tryd.prog) (kt := 9) Tryd.underlying9)) (V := intV) ((w1.alloc (.cells #[.string t.name, .string t.layer, .int .i64 t.lo, .int .i64 t.hi, .slice A t.arms.length c] 29)).alloc (.cells (rowsC (List.replicate t.arms.length ⟨⟨#[]⟩, 0, 0, 0⟩)) 52))
      simpa using this
  case round =>
    obtain ⟨k, place, hk, rfl, hpl, hrep⟩ := hrel
    have Hpl := Lib.hid hpl
    have Hrep := Lib.hid hrep
    clear hpl hrep
    obtain ⟨gt, hgt⟩ : ∃ gt, gt = w1.heap.size := ⟨_, rfl⟩
    rw [← hgt] at Hrep hsz1 ⊢
    clear hgt
    by_cases hlt : k < t.arms.length
    · obtain ⟨b2, o2, s, rfl, hb2, _, hs2, hc2⟩ := (Hs1.out.ext Hrep.out.ext).str hlt
      have Hs2 := Lib.hid hs2
      have i0 : (0 : Int) ≤ (k : Int) := by omega
      have i1 : (k : Int) < (t.arms.length : Int) := by omega
      have hrow := Hrep.out.row
      have r0 := blk_cell hrow (k * 4) (rowsC_at (rows0_at hlt) 0 rfl)
      have f0 := blk_free hrow
      have hr2 := Hrep.out.setRow (j := 0) (u := .string s) (r' := ⟨s, 0, 0, 0⟩) (rows0_at hlt) rfl (by decide) (by omega) (by omega) hsz1
      rw [rows0_step hs2] at hr2
      simp only [Nat.add_zero] at hr2
      obtain ⟨w5, P2, hm5, hk5⟩ := put_i hr2.mp s (k : Int)
      have Hr5 := Lib.hid (hr2.setPlace hk5 hm5 (by omega) (by omega) hsz1)
      have Hp5 := Lib.hid (place_step Hnd.out Hpl.out hs2)
      clear hs2 hrow hr2 hm5 hk5
      go_wp2_with fail
      go_roundw
      case rel => exact ⟨k + 1, _, by omega, by go_num, Hp5.out, Hr5.out⟩
      case measure => simp [intOf]; omega
    · obtain rfl : k = t.arms.length := by omega
      have hB := Hh.out.ext Hrep.out.ext
      have q1 := blk_cell hB.blk 1 rfl
      have hRep2 : RepAt w gt (gt + 1) (gt + 1 + 1) t A c (rowsP t []) place wr := by rw [rowsP_nil]; exact Hrep.out
      have HRep2 := Lib.hid hRep2
      clear hRep2 Hrep
      have hlw := hB.lw
      have hbl := hB.bl
      have hbwr : b < wr.heap.size := by omega
      cases hg : getM (fun a b : ByteArray => a == b) outer name with
      | none =>
        have L1 := look_m hB.mp name none hg
        have hR := run_range_nilMap (P := Tryd.prog) wr 79 _ _ Tryd.underlying79
        have hN := fun (ty : TypeId) => run_next_nilMap (P := Tryd.prog) wr ty 0 0 #[]
        have LM := Lib.hid (show ∀ W, Ext w W → (Instr.lookup 80 (.map (some m)) (.string name) false).run Tryd.prog W = .ok (.map none) W from fun W hW => look_m (Hh.out.ext hW).mp name none hg)
        have LI := Lib.hid (show ∀ W, Ext w W → ∀ (p : ByteArray) (x : Option Int), getM (fun a b : ByteArray => a == b) (xs name) p = x → (Instr.lookup 79 (.map none) (.string p) true).run Tryd.prog W = .ok (.tuple #[.int .i64 (x.getD 0), .bool x.isSome]) W from fun W _ p x hx => li_nil W (Hh.out.none name hg) p x hx)
        have HB := Lib.hid hB
        have Hxn := Lib.hid (Hh.out.none name hg)
        clear hB hg
        go_wp2_with fail
        go_loopw [13] (fun _ wr' => wr' = wr.alloc (.mapIter none 0 #[] 0)) (fun _ _ => 0)
        case atStart => rfl
        case round =>
          obtain rfl := hrel
          have HRepY := Lib.hid (show RepAt w gt (gt + 1) (gt + 1 + 1) t A c (rowsP t ((xs name).map (·.1))) place (wr.alloc (.mapIter none 0 #[] 0)) by rw [Hxn.out]; exact HRep2.out.go ((Keeps.refl _ _).alloc _))
          obtain ⟨mb, hmb⟩ : ∃ mb, mb = wr.heap.size + 1 := ⟨_, rfl⟩
          have HgpY := Lib.hid (show gt + 1 + 1 < mb by have := HRepY.out.mp.lt; simp at this; omega)
          have HMY := Lib.hid (show Mp (idK idT_trial) hadV ((wr.alloc (.mapIter none 0 #[] 0)).alloc (.map #[] 0)) mb (hadL (seenL (l.take 0))) by rw [hmb]; have := Mp.new (K := idK idT_trial) (V := hadV) (wr.alloc (.mapIter none 0 #[] 0)); rw [show (wr.alloc (.mapIter none 0 #[] 0)).heap.size = wr.heap.size + 1 by simp] at this; exact this)
          have q9 := blk_cell (Hh.out.ext HRepY.out.ext).blk 1 rfl
          clear HRep2 q1 L1 hR
          have Hmb := Lib.hid hmb
          clear hmb
          go_wp2_with fail
          rw [← Hmb.out]
          obtain ⟨Y, hY⟩ : ∃ Y, Y = wr.alloc (.mapIter none 0 #[] 0) := ⟨_, rfl⟩
          rw [← hY] at HRepY HMY ⊢
          clear hY hN Hmb
          go_loopw [85] (fun i wr' => ∃ k : Nat, k ≤ n ∧ i = .int .i64 k ∧ Mp (idK idT_trial) hadV wr' mb (hadL (seenL (l.take k))) ∧ RepAt w gt (gt + 1) (gt + 1 + 1) t A c (rowsE t ((xs name).map (·.1)) (cntL (xs name) (l.take k))) place wr') (fun i _ => n - (intOf i).toNat)
          case atStart => exact ⟨0, Nat.zero_le _, rfl, HMY.out, by rw [show rowsE t ((xs name).map (·.1)) (cntL (xs name) (l.take 0)) = rowsP t ((xs name).map (·.1)) from rfl]; exact HRepY.out.go ((Keeps.refl _ _).alloc _)⟩
          case round =>
            obtain ⟨k, hk, rfl, hseen, hrep⟩ := hrel
            have Hseen := Lib.hid hseen
            have Hrep := Lib.hid hrep
            have hmlt := hseen.lt
            have hgpY := HgpY.out
            clear hseen hrep
            by_cases hlt : k < n
            · obtain ⟨b8, o8, e, rfl, hb8, _, he, d0, d1, d2, d3, d4, d5, d6, d7⟩ := (Hse.out.ext Hrep.out.ext).ev hlt
              have He := Lib.hid he
              have Hsm := Lib.hid (HSM.out e (List.mem_of_getElem? he))
              have i0 : (0 : Int) ≤ (k : Int) := by omega
              have i1 : (k : Int) < (n : Int) := by omega
              clear he
              go_wp2_with fail
              refine (ev_May e _ Hsm.out ((HMx.out.ext Hrep.out.ext).ext (((Keeps.refl (fun _ => True) wr).alloc _).alloc _))).mono ?_
              rintro _ w2 ⟨rfl, hx2⟩
              have hx20 : Ext wr w2 := Keeps.trans (((Keeps.refl (fun _ => True) wr).alloc _).alloc _) hx2
              have gE2 := Ext.blk hx2 (blk_old (blk_new wr (.cells #[.string e.src, .int .i64 e.num, .int .i64 e.tick, .int .i64 e.kind, .string e.person, .string e.item, .int .i64 e.value, .string e.text] 62)) _)
              have gI2 := Ext.blk hx2 (blk_new' (wr.alloc (.cells #[.string e.src, .int .i64 e.num, .int .i64 e.tick, .int .i64 e.kind, .string e.person, .string e.item, .int .i64 e.value, .string e.text] 62)) (.cells #[.string e.src, .int .i64 e.num] 86) (wr.heap.size + 1) (by simp))
              have HS2 := Lib.hid (Hseen.out.ext hx20)
              have HR2 := Lib.hid (Hrep.out.go hx20)
              have HEgr := Lib.hid (show gt + 1 ≠ wr.heap.size by have := (Array.getElem?_eq_some_iff.1 Hrep.out.row).1; omega)
              have HgE2 := Lib.hid gE2
              have z0 := blk_cell gI2 0 rfl
              have z1 := blk_cell gI2 1 rfl
              clear d0 d1 d2 d3 d4 d5 d6 d7 gE2 gI2 hx2 hx20
              cases hmay : mayE e
              · have Hst := Lib.hid (cntL_stay (xn := xs name) He.out (.inl hmay))
                go_wp2_with fail
                go_roundw
                case rel => exact ⟨k + 1, by omega, by go_num, by rw [Hst.out.1]; exact HS2.out, by rw [Hst.out.2]; exact HR2.out⟩
                case measure => simp [intOf]; omega
              · have Hmay := Lib.hid hmay
                clear hmay
                cases hsn : (seenL (l.take k)).any (fun x => sameI x e)
                · have L9 := look_h HS2.out e hsn
                  obtain ⟨w3, P3, hm3, hk3⟩ := put_h HS2.out e hsn
                  have Hsn := Lib.hid hsn
                  have hrep3 := HR2.out.keep hk3 (by omega) (by omega) (by omega) hsz1
                  have gE3 := hk3.blk HgE2.out (by omega)
                  have HgE3 := Lib.hid gE3
                  have e2 := blk_cell gE3 2 rfl
                  have e4 := blk_cell gE3 4 rfl
                  have hB3 := Hh.out.ext hrep3.ext
                  have q3 := blk_cell hB3.blk 1 rfl
                  have HR3 := Lib.hid hrep3
                  have Hm3 := Lib.hid hm3
                  have hE3 := (Array.getElem?_eq_some_iff.1 gE3).1
                  have hB3l : b < w3.heap.size := (Array.getElem?_eq_some_iff.1 hB3.blk).1
                  clear hsn hm3 hk3 hrep3 gE3 hB3
                  go_upto_region 24 with fail
                  refine wp_region_ext w3 (Keeps.refl _ _) (by kernel_rfl) (by kernel_rfl) ?_
                  have hcell := fun (y : XW w3) => y.cell
                  have l1 := fun (y : XW w3) => LM.out y.w (HR3.out.ext.trans y.h)
                  cases hg2 : getM (fun a b : ByteArray => a == b) (xs name) e.person with
                  | none =>
                    have l2 := fun (y : XW w3) => LI.out y.w (HR3.out.ext.trans y.h) e.person none hg2
                    simp only [Option.getD_none, Option.isSome_none] at l2
                    have Hst := Lib.hid (cntL_no (xn := xs name) He.out Hmay.out Hsn.out (show cntX (xs name) e = false by unfold cntX; rw [hg2]))
                    clear hg2
                    repeat (go_big_quiet_step (fail))
                    refine wpQuiet_nil ?_
                    rintro _ ⟨y, rfl⟩
                    clear hcell l1 l2 q3 e2 e4 L9 P3
                    go_wp2_with fail
                    go_roundw
                    case rel => exact ⟨k + 1, by omega, by go_num, by rw [cntL_seen He.out Hmay.out Hsn.out]; exact Hm3.out.ext y.h, by rw [Hst.out]; exact HR3.out.go y.h⟩
                    case measure => simp [intOf]; omega
                  | some a =>
                    have l2 := fun (y : XW w3) => LI.out y.w (HR3.out.ext.trans y.h) e.person (some a) hg2
                    simp only [Option.getD_some, Option.isSome_some] at l2
                    have Hg2 := Lib.hid hg2
                    clear hg2
                    repeat (go_big_quiet_step (fail))
                    refine wpQuiet_nil ?_
                    rintro _ ⟨y, rfl⟩
                    have gE4 := Ext.blk y.h HgE3.out
                    have hrep4 := HR3.out.go y.h
                    have HgE4 := Lib.hid gE4
                    have HR4 := Lib.hid hrep4
                    have Hm4 := Lib.hid (Hm3.out.ext y.h)
                    have r2 := blk_cell gE4 2 rfl
                    obtain ⟨w4, hw4⟩ : ∃ w4, w4 = y.w := ⟨_, rfl⟩
                    rw [← hw4] at HgE4 HR4 Hm4 r2 ⊢
                    clear hcell l1 l2 q3 e2 e4 L9 P3 gE4 hrep4 hw4
                    by_cases htl : e.tick < a
                    · have hd : decide (e.tick < a) = true := by simpa using htl
                      have Hst := Lib.hid (cntL_no (xn := xs name) He.out Hmay.out Hsn.out (show cntX (xs name) e = false by unfold cntX; rw [Hg2.out]; simp only [decide_eq_false_iff_not]; omega))
                      go_wp2_with fail
                      go_roundw
                      case rel => exact ⟨k + 1, by omega, by go_num, by rw [cntL_seen He.out Hmay.out Hsn.out]; exact Hm4.out, by rw [Hst.out]; exact HR4.out⟩
                      case measure => simp [intOf]; omega
                    · have hd : decide (e.tick < a) = false := by simpa using htl
                      have Hst := Lib.hid (cntL_yes (xn := xs name) He.out Hmay.out Hsn.out (show cntX (xs name) e = true by unfold cntX; rw [Hg2.out]; simp only [decide_eq_true_eq]; omega))
                      have hin := (Hex.out _ (getM_mem Hg2.out)).1
                      have hpsz := (Hex.out _ (getM_mem Hg2.out)).2
                      simp only at hin hpsz
                      have hat := armT_at hin
                      have hni := armNo_in t e.person Hone.out
                      obtain ⟨j, hj⟩ : ∃ j : Nat, armNo t e.person = j := ⟨(armNo t e.person).toNat, by omega⟩
                      rw [hj] at hat hni
                      simp only [Int.toNat_natCast] at hat
                      have hjl : j < t.arms.length := by omega
                      obtain ⟨cs, hcs⟩ : ∃ cs, cs = cntL (xs name) (l.take k) := ⟨_, rfl⟩
                      have hcl := cntL_len (xs name) (l.take k)
                      have hwi := wrthN_in t j _ (cntL_may (xs name) (l.take k))
                      have hbl2 := bghtN_len t (cntL (xs name) (l.take k)) j
                      have hwe := worth_in Hmay.out
                      have htk : (l.take k).length ≤ 1000 := by rw [List.length_take]; omega
                      have hrat := rowsE_at (t := t) (ds := (xs name).map (·.1)) (cs := cntL (xs name) (l.take k)) hat
                      have hstp := rowsE_step (ds := (xs name).map (·.1)) (cs := cntL (xs name) (l.take k)) hj hat
                      obtain ⟨q0, hq0⟩ : ∃ q0 : Int, q0 = (((xs name).map (·.1)).countP (fun d => armNo t d == (j : Int)) : Nat) := ⟨_, rfl⟩
                      obtain ⟨q2, hq2⟩ : ∃ q2 : Nat, q2 = bghtN t (cntL (xs name) (l.take k)) j := ⟨_, rfl⟩
                      obtain ⟨z3, hz3⟩ : ∃ z3 : Int, z3 = wrthN t j (cntL (xs name) (l.take k)) := ⟨_, rfl⟩
                      obtain ⟨we, hwe9⟩ : ∃ we : Int, we = worthE e := ⟨_, rfl⟩
                      rw [← hq0, ← hq2, ← hz3] at hrat hstp
                      rw [← hq2] at hbl2
                      rw [← hz3] at hwi
                      rw [← hwe9] at hwe hstp
                      have Hwe9 := Lib.hid hwe9
                      have hget := place_get Hpl.out hjl hat
                      have hwz : (-1000000 : Int) < z3 ∧ z3 < 1000000 := by omega
                      have hq2b : q2 < 1000000 := by omega
                      have hwr : IntKind.i64.wrap (z3 + we) = z3 + we := by rw [IntKind.wrap_i64]; omega
                      have Hrat := Lib.hid hrat
                      have Hstp := Lib.hid hstp
                      have Hget := Lib.hid hget
                      have Hin := Lib.hid hin
                      clear hat hj hcs hcl hwi hbl2 hwe htk hrat hstp hq0 hq2 hz3 hwe9 hget hin
                      have t0 := blk_cell HR4.out.box 0 rfl
                      have t1 := blk_cell HR4.out.box 1 rfl
                      have t2 := blk_cell HR4.out.box 2 rfl
                      have t3 := blk_cell HR4.out.box 3 rfl
                      have t4 := blk_cell HR4.out.box 4 rfl
                      have r4 := blk_cell HgE4.out 4 rfl
                      go_wp2_with fail
                      refine (tr_Arm t e.person A c _ _ (Hs1.out.ext HR4.out.ext) hc Hwf.out hpsz).mono ?_
                      rw [Hin.out]
                      rintro _ w8 ⟨rfl, hx8⟩
                      have hrep8 := HR4.out.go hx8
                      have HR8 := Lib.hid hrep8
                      have Hm8 := Lib.hid (Hm4.out.ext hx8)
                      have L8 := look_p hrep8.mp (armT t e.person) (j : Int) Hget.out
                      have HgE8 := Lib.hid (Ext.blk hx8 HgE4.out)
                      have e3 := blk_cell HgE8.out 3 rfl
                      have c2 := blk_cell hrep8.row (j * 4 + 2) (rowsC_at Hrat.out 2 rfl)
                      have f8 := blk_free hrep8.row
                      have j0 : (0 : Int) ≤ (j : Int) := by omega
                      have j1 : (j : Int) < (t.arms.length : Int) := by omega
                      have hmb8 := Hm8.out.lt
                      have hEgr : gt + 1 ≠ wr.heap.size := HEgr.out
                      clear t0 t1 t2 t3 t4 r2 r4 hx8 hrep8
                      by_cases hk3 : e.kind = 3
                      · have K3 : (e.kind == 3) = true := by simpa using hk3
                        have Hstp9 := Lib.hid (show ((rowsE t ((xs name).map (·.1)) (cntL (xs name) (l.take k))).set j ⟨armT t e.person, q0, (q2 : Int) + 1, z3⟩).set j ⟨armT t e.person, q0, (q2 : Int) + 1, z3 + we⟩ = rowsE t ((xs name).map (·.1)) (cntL (xs name) (l.take k) ++ [e]) by rw [List.set_set, ← Hstp.out, if_pos hk3])
                        have hjr : j < (rowsE t ((xs name).map (·.1)) (cntL (xs name) (l.take k))).length := (List.getElem?_eq_some_iff.1 Hrat.out).1
                        have Hrat9 := Lib.hid (show ((rowsE t ((xs name).map (·.1)) (cntL (xs name) (l.take k))).set j ⟨armT t e.person, q0, (q2 : Int) + 1, z3⟩)[j]? = some ⟨armT t e.person, q0, (q2 : Int) + 1, z3⟩ from List.getElem?_set_self hjr)
                        have hrep9 := HR8.out.setRow (j := 2) (u := .int .i64 ((q2 : Int) + 1)) (r' := ⟨armT t e.person, q0, (q2 : Int) + 1, z3⟩) Hrat.out rfl (by decide) (by omega) (by omega) hsz1
                        have hkk : Keeps (fun i => i ≠ gt + 1) w8 (w8.setCell ⟨gt + 1, j * 4 + 2, none⟩ (.int .i64 ((q2 : Int) + 1))) := (Keeps.refl _ _).setCell (fun _ h => h rfl) _
                        have hm9 := Hm8.out.keep hkk (by omega)
                        have hgE9 := hkk.blk HgE8.out (by omega)
                        have HR9 := Lib.hid hrep9
                        have Hm9 := Lib.hid hm9
                        have HgE9 := Lib.hid hgE9
                        clear hrep9 hkk hm9 hgE9 hjr hk3
                        go_upto_region 30 with fail
                        obtain ⟨w9, hw9⟩ : ∃ w9, w9 = w8.setCell ⟨gt + 1, j * 4 + 2, none⟩ (.int .i64 ((q2 : Int) + 1)) := ⟨_, rfl⟩
                        rw [← hw9] at HR9 Hm9 HgE9 ⊢
                        clear hw9 c2 e3 L8 f8 K3
                        have c3 := blk_cell HR9.out.row (j * 4 + 3) (rowsC_at Hrat9.out 3 rfl)
                        have f9 := blk_free HR9.out.row
                        have k0 := blk_cell HgE9.out 0 rfl
                        have k1 := blk_cell HgE9.out 1 rfl
                        have k2 := blk_cell HgE9.out 2 rfl
                        have k3 := blk_cell HgE9.out 3 rfl
                        have k4 := blk_cell HgE9.out 4 rfl
                        have k5 := blk_cell HgE9.out 5 rfl
                        have k6 := blk_cell HgE9.out 6 rfl
                        have k7 := blk_cell HgE9.out 7 rfl
                        have hmb9 := Hm9.out.lt
                        have hE9 := (Array.getElem?_eq_some_iff.1 HgE9.out).1
                        have hR9 := (Array.getElem?_eq_some_iff.1 HR9.out.row).1
                        have CW := Lib.hid (fun (W : World) => show Calls Tryd.prog 41 #[.agg #[.string e.src, .int .i64 e.num, .int .i64 e.tick, .int .i64 e.kind, .string e.person, .string e.item, .int .i64 e.value, .string e.text]] W (fun r w' => r = .returned (.int .i64 we) ∧ Ext W w') by rw [Hwe9.out]; exact ev_Worth e W)
                        go_region_with (go_at_call 41; ((with_reducible refine (CW.out _).mono ?_); rintro _ w10 ⟨rfl, hx10⟩; have hrow10 := hx10.blk (g := gt + 1) (by exact HR9.out.row); have c10 := blk_cell hrow10 (j * 4 + 3) (rowsC_at Hrat9.out 3 rfl); have f10 := blk_free hrow10; have hy : Ext w9 w10 := Keeps.trans (by repeat (first | with_reducible exact Keeps.refl _ _ | with_reducible refine Keeps.drew ?_ | with_reducible refine Keeps.drewN ?_ _ | with_reducible refine Keeps.alloc ?_ _)) hx10; have Hy := Lib.hid hy; clear hrow10 hy hx10))
                        all_goals
                          go_wp2_with fail
                          refine ⟨⟨k + 1, by omega, by go_num, by rw [cntL_seen He.out Hmay.out Hsn.out]; exact (Hm9.out.ext Hy.out).keep (ok := fun i => i ≠ gt + 1) ((Keeps.refl _ _).setCell (fun _ h => h rfl) _) (by omega), by rw [Hst.out, ← Hstp9.out]; exact (HR9.out.go Hy.out).setRow (j := 3) Hrat9.out rfl (by decide) (by omega) (by omega) hsz1⟩, ?_⟩
                          simp [intOf]; omega
                      · have K3 : (e.kind == 3) = false := by simpa using hk3
                        have Hstp9 := Lib.hid (show (rowsE t ((xs name).map (·.1)) (cntL (xs name) (l.take k))).set j ⟨armT t e.person, q0, (q2 : Int), z3 + we⟩ = rowsE t ((xs name).map (·.1)) (cntL (xs name) (l.take k) ++ [e]) by rw [← Hstp.out, if_neg hk3, Int.add_zero])
                        have Hrat9 := Lib.hid Hrat.out
                        have HR9 := Lib.hid HR8.out
                        have Hm9 := Lib.hid Hm8.out
                        have HgE9 := Lib.hid HgE8.out
                        clear hk3
                        go_upto_region 30 with fail
                        obtain ⟨w9, hw9⟩ : ∃ w9, w9 = w8 := ⟨_, rfl⟩
                        rw [← hw9] at HR9 Hm9 HgE9 ⊢
                        clear hw9 c2 e3 L8 f8 K3
                        have c3 := blk_cell HR9.out.row (j * 4 + 3) (rowsC_at Hrat9.out 3 rfl)
                        have f9 := blk_free HR9.out.row
                        have k0 := blk_cell HgE9.out 0 rfl
                        have k1 := blk_cell HgE9.out 1 rfl
                        have k2 := blk_cell HgE9.out 2 rfl
                        have k3 := blk_cell HgE9.out 3 rfl
                        have k4 := blk_cell HgE9.out 4 rfl
                        have k5 := blk_cell HgE9.out 5 rfl
                        have k6 := blk_cell HgE9.out 6 rfl
                        have k7 := blk_cell HgE9.out 7 rfl
                        have hmb9 := Hm9.out.lt
                        have hE9 := (Array.getElem?_eq_some_iff.1 HgE9.out).1
                        have hR9 := (Array.getElem?_eq_some_iff.1 HR9.out.row).1
                        have CW := Lib.hid (fun (W : World) => show Calls Tryd.prog 41 #[.agg #[.string e.src, .int .i64 e.num, .int .i64 e.tick, .int .i64 e.kind, .string e.person, .string e.item, .int .i64 e.value, .string e.text]] W (fun r w' => r = .returned (.int .i64 we) ∧ Ext W w') by rw [Hwe9.out]; exact ev_Worth e W)
                        go_region_with (go_at_call 41; ((with_reducible refine (CW.out _).mono ?_); rintro _ w10 ⟨rfl, hx10⟩; have hrow10 := hx10.blk (g := gt + 1) (by exact HR9.out.row); have c10 := blk_cell hrow10 (j * 4 + 3) (rowsC_at Hrat9.out 3 rfl); have f10 := blk_free hrow10; have hy : Ext w9 w10 := Keeps.trans (by repeat (first | with_reducible exact Keeps.refl _ _ | with_reducible refine Keeps.drew ?_ | with_reducible refine Keeps.drewN ?_ _ | with_reducible refine Keeps.alloc ?_ _)) hx10; have Hy := Lib.hid hy; clear hrow10 hy hx10))
                        all_goals
                          go_wp2_with fail
                          refine ⟨⟨k + 1, by omega, by go_num, by rw [cntL_seen He.out Hmay.out Hsn.out]; exact (Hm9.out.ext Hy.out).keep (ok := fun i => i ≠ gt + 1) ((Keeps.refl _ _).setCell (fun _ h => h rfl) _) (by omega), by rw [Hst.out, ← Hstp9.out]; exact (HR9.out.go Hy.out).setRow (j := 3) Hrat9.out rfl (by decide) (by omega) (by omega) hsz1⟩, ?_⟩
                          simp [intOf]; omega
                · have L9 := look_h HS2.out e hsn
                  have Hst := Lib.hid (cntL_stay (xn := xs name) He.out (.inr hsn))
                  clear hsn
                  go_wp2_with fail
                  go_roundw
                  case rel => exact ⟨k + 1, by omega, by go_num, by rw [Hst.out.1]; exact HS2.out, by rw [Hst.out.2]; exact HR2.out⟩
                  case measure => simp [intOf]; omega
            · obtain rfl : k = n := by omega
              have HF := Lib.hid (List.take_of_length_le (Nat.le_of_eq Hse.out.1))
              go_wp2_with fail
              go_ret
              refine ⟨gt + 1, rfl, ?_, by omega, Hrep.out.ext⟩
              have := Hrep.out.row
              rwa [HF.out] at this
      | some mi =>
        have L1 := look_m hB.mp name (some mi) hg
        have LM := Lib.hid (show ∀ W, Ext w W → (Instr.lookup 80 (.map (some m)) (.string name) false).run Tryd.prog W = .ok (.map (some mi)) W from fun W hW => look_m (Hh.out.ext hW).mp name (some mi) hg)
        have LI := Lib.hid (show ∀ W, Ext w W → ∀ (p : ByteArray) (x : Option Int), getM (fun a b : ByteArray => a == b) (xs name) p = x → (Instr.lookup 79 (.map (some mi)) (.string p) true).run Tryd.prog W = .ok (.tuple #[.int .i64 (x.getD 0), .bool x.isSome]) W from fun W hW p x hx => look_i ((Hh.out.ext hW).inn _ (getM_mem hg)) p x hx)
        have hmi := hB.inn _ (getM_mem hg)
        simp only at hmi
        obtain ⟨w6, hR, hIt, hx6⟩ := hmi.range Tryd.underlying79
        have hmil := hB.far _ (getM_mem hg)
        have hmilt := hmi.lt
        have hmw := (Hh.out.inn _ (getM_mem hg)).lt
        simp only at hmw
        have HIt := Lib.hid hIt
        have HRep3 := Lib.hid (HRep2.out.go hx6)
        have Hkeys := Lib.hid hmi.keys
        have hgp := HRep2.out.mp.lt
        obtain ⟨gi, hgi⟩ : ∃ gi, gi = wr.heap.size := ⟨_, rfl⟩
        rw [← hgi] at HIt hR hgp
        clear hgi
        clear hB hg hmi hIt hx6 HRep2
        go_wp2_with fail
        go_loopg [13] (xs name).length (fun g _ wr' => ∃ ds, g = (xs name).length - ds.length ∧ Iter (strK (P := Tryd.prog) (kt := 9) Tryd.underlying9) intV wr' gi mi (xs name) ds ∧ RepAt w gt (gt + 1) (gt + 1 + 1) t A c (rowsP t ds) place wr')
        case atStart => exact ⟨[], by simp, HIt.out, HRep3.out⟩
        case round =>
          obtain ⟨ds, hgk, hit, hrep⟩ := hrel
          have Hgk := Lib.hid hgk
          clear hgk
          have hdl : ds.length ≤ (xs name).length := by
            obtain ⟨_, _, _, _, _, _, _, _, _, _, _, _, _, hnd, hsub⟩ := hit
            have := nodup_sub_len _ _ hnd hsub
            simpa using this
          rcases hit.next 3 with ⟨hall, hN0⟩ | ⟨p, hp, hpd, w7, hN0, hE0, hit7, hk7⟩
          · have hN := fun (ty : TypeId) => show (Instr.next (.pointer (some ⟨gi, 0, none⟩)) false ty).run Tryd.prog wr = _ from hN0
            have Hperm := Lib.hid (show rowsP t ds = rowsP t ((xs name).map (·.1)) by
              obtain ⟨_, _, _, _, _, _, _, _, _, _, _, _, _, hnd, hsub⟩ := hit
              exact rowsP_perm (perm_of hnd Hkeys.out hsub (fun d hd => by obtain ⟨q, hq, rfl⟩ := List.mem_map.1 hd; exact hall q hq)))
            have Hrep := Lib.hid hrep
            clear hN0 hall hit hrep
            have HRepY := Lib.hid (show RepAt w gt (gt + 1) (gt + 1 + 1) t A c (rowsP t ((xs name).map (·.1))) place wr by rw [← Hperm.out]; exact Hrep.out)
            obtain ⟨mb, hmb⟩ : ∃ mb, mb = wr.heap.size := ⟨_, rfl⟩
            have HgpY := Lib.hid (show gt + 1 + 1 < mb by rw [hmb]; exact HRepY.out.mp.lt)
            have HMY := Lib.hid (show Mp (idK idT_trial) hadV (wr.alloc (.map #[] 0)) mb (hadL (seenL (l.take 0))) by rw [hmb]; exact Mp.new wr)
            have Hmb := Lib.hid hmb
            clear hmb
            clear Hrep q1 L1 hR
            go_wp2_with fail
            rw [← Hmb.out]
            obtain ⟨Y, hY⟩ : ∃ Y, Y = wr := ⟨_, rfl⟩
            rw [← hY] at HRepY HMY ⊢
            clear hY hN Hmb
            go_loopw [85] (fun i wr' => ∃ k : Nat, k ≤ n ∧ i = .int .i64 k ∧ Mp (idK idT_trial) hadV wr' mb (hadL (seenL (l.take k))) ∧ RepAt w gt (gt + 1) (gt + 1 + 1) t A c (rowsE t ((xs name).map (·.1)) (cntL (xs name) (l.take k))) place wr') (fun i _ => n - (intOf i).toNat)
            case atStart => exact ⟨0, Nat.zero_le _, rfl, HMY.out, by rw [show rowsE t ((xs name).map (·.1)) (cntL (xs name) (l.take 0)) = rowsP t ((xs name).map (·.1)) from rfl]; exact HRepY.out.go ((Keeps.refl _ _).alloc _)⟩
            case round =>
              obtain ⟨k, hk, rfl, hseen, hrep⟩ := hrel
              have Hseen := Lib.hid hseen
              have Hrep := Lib.hid hrep
              have hmlt := hseen.lt
              have hgpY := HgpY.out
              clear hseen hrep
              by_cases hlt : k < n
              · obtain ⟨b8, o8, e, rfl, hb8, _, he, d0, d1, d2, d3, d4, d5, d6, d7⟩ := (Hse.out.ext Hrep.out.ext).ev hlt
                have He := Lib.hid he
                have Hsm := Lib.hid (HSM.out e (List.mem_of_getElem? he))
                have i0 : (0 : Int) ≤ (k : Int) := by omega
                have i1 : (k : Int) < (n : Int) := by omega
                clear he
                go_wp2_with fail
                refine (ev_May e _ Hsm.out ((HMx.out.ext Hrep.out.ext).ext (((Keeps.refl (fun _ => True) wr).alloc _).alloc _))).mono ?_
                rintro _ w2 ⟨rfl, hx2⟩
                have hx20 : Ext wr w2 := Keeps.trans (((Keeps.refl (fun _ => True) wr).alloc _).alloc _) hx2
                have gE2 := Ext.blk hx2 (blk_old (blk_new wr (.cells #[.string e.src, .int .i64 e.num, .int .i64 e.tick, .int .i64 e.kind, .string e.person, .string e.item, .int .i64 e.value, .string e.text] 62)) _)
                have gI2 := Ext.blk hx2 (blk_new' (wr.alloc (.cells #[.string e.src, .int .i64 e.num, .int .i64 e.tick, .int .i64 e.kind, .string e.person, .string e.item, .int .i64 e.value, .string e.text] 62)) (.cells #[.string e.src, .int .i64 e.num] 86) (wr.heap.size + 1) (by simp))
                have HS2 := Lib.hid (Hseen.out.ext hx20)
                have HR2 := Lib.hid (Hrep.out.go hx20)
                have HEgr := Lib.hid (show gt + 1 ≠ wr.heap.size by have := (Array.getElem?_eq_some_iff.1 Hrep.out.row).1; omega)
                have HgE2 := Lib.hid gE2
                have z0 := blk_cell gI2 0 rfl
                have z1 := blk_cell gI2 1 rfl
                clear d0 d1 d2 d3 d4 d5 d6 d7 gE2 gI2 hx2 hx20
                cases hmay : mayE e
                · have Hst := Lib.hid (cntL_stay (xn := xs name) He.out (.inl hmay))
                  go_wp2_with fail
                  go_roundw
                  case rel => exact ⟨k + 1, by omega, by go_num, by rw [Hst.out.1]; exact HS2.out, by rw [Hst.out.2]; exact HR2.out⟩
                  case measure => simp [intOf]; omega
                · have Hmay := Lib.hid hmay
                  clear hmay
                  cases hsn : (seenL (l.take k)).any (fun x => sameI x e)
                  · have L9 := look_h HS2.out e hsn
                    obtain ⟨w3, P3, hm3, hk3⟩ := put_h HS2.out e hsn
                    have Hsn := Lib.hid hsn
                    have hrep3 := HR2.out.keep hk3 (by omega) (by omega) (by omega) hsz1
                    have gE3 := hk3.blk HgE2.out (by omega)
                    have HgE3 := Lib.hid gE3
                    have e2 := blk_cell gE3 2 rfl
                    have e4 := blk_cell gE3 4 rfl
                    have hB3 := Hh.out.ext hrep3.ext
                    have q3 := blk_cell hB3.blk 1 rfl
                    have HR3 := Lib.hid hrep3
                    have Hm3 := Lib.hid hm3
                    have hE3 := (Array.getElem?_eq_some_iff.1 gE3).1
                    have hB3l : b < w3.heap.size := (Array.getElem?_eq_some_iff.1 hB3.blk).1
                    clear hsn hm3 hk3 hrep3 gE3 hB3
                    go_upto_region 24 with fail
                    refine wp_region_ext w3 (Keeps.refl _ _) (by kernel_rfl) (by kernel_rfl) ?_
                    have hcell := fun (y : XW w3) => y.cell
                    have l1 := fun (y : XW w3) => LM.out y.w (HR3.out.ext.trans y.h)
                    cases hg2 : getM (fun a b : ByteArray => a == b) (xs name) e.person with
                    | none =>
                      have l2 := fun (y : XW w3) => LI.out y.w (HR3.out.ext.trans y.h) e.person none hg2
                      simp only [Option.getD_none, Option.isSome_none] at l2
                      have Hst := Lib.hid (cntL_no (xn := xs name) He.out Hmay.out Hsn.out (show cntX (xs name) e = false by unfold cntX; rw [hg2]))
                      clear hg2
                      repeat (go_big_quiet_step (fail))
                      refine wpQuiet_nil ?_
                      rintro _ ⟨y, rfl⟩
                      clear hcell l1 l2 q3 e2 e4 L9 P3
                      go_wp2_with fail
                      go_roundw
                      case rel => exact ⟨k + 1, by omega, by go_num, by rw [cntL_seen He.out Hmay.out Hsn.out]; exact Hm3.out.ext y.h, by rw [Hst.out]; exact HR3.out.go y.h⟩
                      case measure => simp [intOf]; omega
                    | some a =>
                      have l2 := fun (y : XW w3) => LI.out y.w (HR3.out.ext.trans y.h) e.person (some a) hg2
                      simp only [Option.getD_some, Option.isSome_some] at l2
                      have Hg2 := Lib.hid hg2
                      clear hg2
                      repeat (go_big_quiet_step (fail))
                      refine wpQuiet_nil ?_
                      rintro _ ⟨y, rfl⟩
                      have gE4 := Ext.blk y.h HgE3.out
                      have hrep4 := HR3.out.go y.h
                      have HgE4 := Lib.hid gE4
                      have HR4 := Lib.hid hrep4
                      have Hm4 := Lib.hid (Hm3.out.ext y.h)
                      have r2 := blk_cell gE4 2 rfl
                      obtain ⟨w4, hw4⟩ : ∃ w4, w4 = y.w := ⟨_, rfl⟩
                      rw [← hw4] at HgE4 HR4 Hm4 r2 ⊢
                      clear hcell l1 l2 q3 e2 e4 L9 P3 gE4 hrep4 hw4
                      by_cases htl : e.tick < a
                      · have hd : decide (e.tick < a) = true := by simpa using htl
                        have Hst := Lib.hid (cntL_no (xn := xs name) He.out Hmay.out Hsn.out (show cntX (xs name) e = false by unfold cntX; rw [Hg2.out]; simp only [decide_eq_false_iff_not]; omega))
                        go_wp2_with fail
                        go_roundw
                        case rel => exact ⟨k + 1, by omega, by go_num, by rw [cntL_seen He.out Hmay.out Hsn.out]; exact Hm4.out, by rw [Hst.out]; exact HR4.out⟩
                        case measure => simp [intOf]; omega
                      · have hd : decide (e.tick < a) = false := by simpa using htl
                        have Hst := Lib.hid (cntL_yes (xn := xs name) He.out Hmay.out Hsn.out (show cntX (xs name) e = true by unfold cntX; rw [Hg2.out]; simp only [decide_eq_true_eq]; omega))
                        have hin := (Hex.out _ (getM_mem Hg2.out)).1
                        have hpsz := (Hex.out _ (getM_mem Hg2.out)).2
                        simp only at hin hpsz
                        have hat := armT_at hin
                        have hni := armNo_in t e.person Hone.out
                        obtain ⟨j, hj⟩ : ∃ j : Nat, armNo t e.person = j := ⟨(armNo t e.person).toNat, by omega⟩
                        rw [hj] at hat hni
                        simp only [Int.toNat_natCast] at hat
                        have hjl : j < t.arms.length := by omega
                        obtain ⟨cs, hcs⟩ : ∃ cs, cs = cntL (xs name) (l.take k) := ⟨_, rfl⟩
                        have hcl := cntL_len (xs name) (l.take k)
                        have hwi := wrthN_in t j _ (cntL_may (xs name) (l.take k))
                        have hbl2 := bghtN_len t (cntL (xs name) (l.take k)) j
                        have hwe := worth_in Hmay.out
                        have htk : (l.take k).length ≤ 1000 := by rw [List.length_take]; omega
                        have hrat := rowsE_at (t := t) (ds := (xs name).map (·.1)) (cs := cntL (xs name) (l.take k)) hat
                        have hstp := rowsE_step (ds := (xs name).map (·.1)) (cs := cntL (xs name) (l.take k)) hj hat
                        obtain ⟨q0, hq0⟩ : ∃ q0 : Int, q0 = (((xs name).map (·.1)).countP (fun d => armNo t d == (j : Int)) : Nat) := ⟨_, rfl⟩
                        obtain ⟨q2, hq2⟩ : ∃ q2 : Nat, q2 = bghtN t (cntL (xs name) (l.take k)) j := ⟨_, rfl⟩
                        obtain ⟨z3, hz3⟩ : ∃ z3 : Int, z3 = wrthN t j (cntL (xs name) (l.take k)) := ⟨_, rfl⟩
                        obtain ⟨we, hwe9⟩ : ∃ we : Int, we = worthE e := ⟨_, rfl⟩
                        rw [← hq0, ← hq2, ← hz3] at hrat hstp
                        rw [← hq2] at hbl2
                        rw [← hz3] at hwi
                        rw [← hwe9] at hwe hstp
                        have Hwe9 := Lib.hid hwe9
                        have hget := place_get Hpl.out hjl hat
                        have hwz : (-1000000 : Int) < z3 ∧ z3 < 1000000 := by omega
                        have hq2b : q2 < 1000000 := by omega
                        have hwr : IntKind.i64.wrap (z3 + we) = z3 + we := by rw [IntKind.wrap_i64]; omega
                        have Hrat := Lib.hid hrat
                        have Hstp := Lib.hid hstp
                        have Hget := Lib.hid hget
                        have Hin := Lib.hid hin
                        clear hat hj hcs hcl hwi hbl2 hwe htk hrat hstp hq0 hq2 hz3 hwe9 hget hin
                        have t0 := blk_cell HR4.out.box 0 rfl
                        have t1 := blk_cell HR4.out.box 1 rfl
                        have t2 := blk_cell HR4.out.box 2 rfl
                        have t3 := blk_cell HR4.out.box 3 rfl
                        have t4 := blk_cell HR4.out.box 4 rfl
                        have r4 := blk_cell HgE4.out 4 rfl
                        go_wp2_with fail
                        refine (tr_Arm t e.person A c _ _ (Hs1.out.ext HR4.out.ext) hc Hwf.out hpsz).mono ?_
                        rw [Hin.out]
                        rintro _ w8 ⟨rfl, hx8⟩
                        have hrep8 := HR4.out.go hx8
                        have HR8 := Lib.hid hrep8
                        have Hm8 := Lib.hid (Hm4.out.ext hx8)
                        have L8 := look_p hrep8.mp (armT t e.person) (j : Int) Hget.out
                        have HgE8 := Lib.hid (Ext.blk hx8 HgE4.out)
                        have e3 := blk_cell HgE8.out 3 rfl
                        have c2 := blk_cell hrep8.row (j * 4 + 2) (rowsC_at Hrat.out 2 rfl)
                        have f8 := blk_free hrep8.row
                        have j0 : (0 : Int) ≤ (j : Int) := by omega
                        have j1 : (j : Int) < (t.arms.length : Int) := by omega
                        have hmb8 := Hm8.out.lt
                        have hEgr : gt + 1 ≠ wr.heap.size := HEgr.out
                        clear t0 t1 t2 t3 t4 r2 r4 hx8 hrep8
                        by_cases hk3 : e.kind = 3
                        · have K3 : (e.kind == 3) = true := by simpa using hk3
                          have Hstp9 := Lib.hid (show ((rowsE t ((xs name).map (·.1)) (cntL (xs name) (l.take k))).set j ⟨armT t e.person, q0, (q2 : Int) + 1, z3⟩).set j ⟨armT t e.person, q0, (q2 : Int) + 1, z3 + we⟩ = rowsE t ((xs name).map (·.1)) (cntL (xs name) (l.take k) ++ [e]) by rw [List.set_set, ← Hstp.out, if_pos hk3])
                          have hjr : j < (rowsE t ((xs name).map (·.1)) (cntL (xs name) (l.take k))).length := (List.getElem?_eq_some_iff.1 Hrat.out).1
                          have Hrat9 := Lib.hid (show ((rowsE t ((xs name).map (·.1)) (cntL (xs name) (l.take k))).set j ⟨armT t e.person, q0, (q2 : Int) + 1, z3⟩)[j]? = some ⟨armT t e.person, q0, (q2 : Int) + 1, z3⟩ from List.getElem?_set_self hjr)
                          have hrep9 := HR8.out.setRow (j := 2) (u := .int .i64 ((q2 : Int) + 1)) (r' := ⟨armT t e.person, q0, (q2 : Int) + 1, z3⟩) Hrat.out rfl (by decide) (by omega) (by omega) hsz1
                          have hkk : Keeps (fun i => i ≠ gt + 1) w8 (w8.setCell ⟨gt + 1, j * 4 + 2, none⟩ (.int .i64 ((q2 : Int) + 1))) := (Keeps.refl _ _).setCell (fun _ h => h rfl) _
                          have hm9 := Hm8.out.keep hkk (by omega)
                          have hgE9 := hkk.blk HgE8.out (by omega)
                          have HR9 := Lib.hid hrep9
                          have Hm9 := Lib.hid hm9
                          have HgE9 := Lib.hid hgE9
                          clear hrep9 hkk hm9 hgE9 hjr hk3
                          go_upto_region 30 with fail
                          obtain ⟨w9, hw9⟩ : ∃ w9, w9 = w8.setCell ⟨gt + 1, j * 4 + 2, none⟩ (.int .i64 ((q2 : Int) + 1)) := ⟨_, rfl⟩
                          rw [← hw9] at HR9 Hm9 HgE9 ⊢
                          clear hw9 c2 e3 L8 f8 K3
                          have c3 := blk_cell HR9.out.row (j * 4 + 3) (rowsC_at Hrat9.out 3 rfl)
                          have f9 := blk_free HR9.out.row
                          have k0 := blk_cell HgE9.out 0 rfl
                          have k1 := blk_cell HgE9.out 1 rfl
                          have k2 := blk_cell HgE9.out 2 rfl
                          have k3 := blk_cell HgE9.out 3 rfl
                          have k4 := blk_cell HgE9.out 4 rfl
                          have k5 := blk_cell HgE9.out 5 rfl
                          have k6 := blk_cell HgE9.out 6 rfl
                          have k7 := blk_cell HgE9.out 7 rfl
                          have hmb9 := Hm9.out.lt
                          have hE9 := (Array.getElem?_eq_some_iff.1 HgE9.out).1
                          have hR9 := (Array.getElem?_eq_some_iff.1 HR9.out.row).1
                          have CW := Lib.hid (fun (W : World) => show Calls Tryd.prog 41 #[.agg #[.string e.src, .int .i64 e.num, .int .i64 e.tick, .int .i64 e.kind, .string e.person, .string e.item, .int .i64 e.value, .string e.text]] W (fun r w' => r = .returned (.int .i64 we) ∧ Ext W w') by rw [Hwe9.out]; exact ev_Worth e W)
                          go_region_with (go_at_call 41; ((with_reducible refine (CW.out _).mono ?_); rintro _ w10 ⟨rfl, hx10⟩; have hrow10 := hx10.blk (g := gt + 1) (by exact HR9.out.row); have c10 := blk_cell hrow10 (j * 4 + 3) (rowsC_at Hrat9.out 3 rfl); have f10 := blk_free hrow10; have hy : Ext w9 w10 := Keeps.trans (by repeat (first | with_reducible exact Keeps.refl _ _ | with_reducible refine Keeps.drew ?_ | with_reducible refine Keeps.drewN ?_ _ | with_reducible refine Keeps.alloc ?_ _)) hx10; have Hy := Lib.hid hy; clear hrow10 hy hx10))
                          all_goals
                            go_wp2_with fail
                            refine ⟨⟨k + 1, by omega, by go_num, by rw [cntL_seen He.out Hmay.out Hsn.out]; exact (Hm9.out.ext Hy.out).keep (ok := fun i => i ≠ gt + 1) ((Keeps.refl _ _).setCell (fun _ h => h rfl) _) (by omega), by rw [Hst.out, ← Hstp9.out]; exact (HR9.out.go Hy.out).setRow (j := 3) Hrat9.out rfl (by decide) (by omega) (by omega) hsz1⟩, ?_⟩
                            simp [intOf]; omega
                        · have K3 : (e.kind == 3) = false := by simpa using hk3
                          have Hstp9 := Lib.hid (show (rowsE t ((xs name).map (·.1)) (cntL (xs name) (l.take k))).set j ⟨armT t e.person, q0, (q2 : Int), z3 + we⟩ = rowsE t ((xs name).map (·.1)) (cntL (xs name) (l.take k) ++ [e]) by rw [← Hstp.out, if_neg hk3, Int.add_zero])
                          have Hrat9 := Lib.hid Hrat.out
                          have HR9 := Lib.hid HR8.out
                          have Hm9 := Lib.hid Hm8.out
                          have HgE9 := Lib.hid HgE8.out
                          clear hk3
                          go_upto_region 30 with fail
                          obtain ⟨w9, hw9⟩ : ∃ w9, w9 = w8 := ⟨_, rfl⟩
                          rw [← hw9] at HR9 Hm9 HgE9 ⊢
                          clear hw9 c2 e3 L8 f8 K3
                          have c3 := blk_cell HR9.out.row (j * 4 + 3) (rowsC_at Hrat9.out 3 rfl)
                          have f9 := blk_free HR9.out.row
                          have k0 := blk_cell HgE9.out 0 rfl
                          have k1 := blk_cell HgE9.out 1 rfl
                          have k2 := blk_cell HgE9.out 2 rfl
                          have k3 := blk_cell HgE9.out 3 rfl
                          have k4 := blk_cell HgE9.out 4 rfl
                          have k5 := blk_cell HgE9.out 5 rfl
                          have k6 := blk_cell HgE9.out 6 rfl
                          have k7 := blk_cell HgE9.out 7 rfl
                          have hmb9 := Hm9.out.lt
                          have hE9 := (Array.getElem?_eq_some_iff.1 HgE9.out).1
                          have hR9 := (Array.getElem?_eq_some_iff.1 HR9.out.row).1
                          have CW := Lib.hid (fun (W : World) => show Calls Tryd.prog 41 #[.agg #[.string e.src, .int .i64 e.num, .int .i64 e.tick, .int .i64 e.kind, .string e.person, .string e.item, .int .i64 e.value, .string e.text]] W (fun r w' => r = .returned (.int .i64 we) ∧ Ext W w') by rw [Hwe9.out]; exact ev_Worth e W)
                          go_region_with (go_at_call 41; ((with_reducible refine (CW.out _).mono ?_); rintro _ w10 ⟨rfl, hx10⟩; have hrow10 := hx10.blk (g := gt + 1) (by exact HR9.out.row); have c10 := blk_cell hrow10 (j * 4 + 3) (rowsC_at Hrat9.out 3 rfl); have f10 := blk_free hrow10; have hy : Ext w9 w10 := Keeps.trans (by repeat (first | with_reducible exact Keeps.refl _ _ | with_reducible refine Keeps.drew ?_ | with_reducible refine Keeps.drewN ?_ _ | with_reducible refine Keeps.alloc ?_ _)) hx10; have Hy := Lib.hid hy; clear hrow10 hy hx10))
                          all_goals
                            go_wp2_with fail
                            refine ⟨⟨k + 1, by omega, by go_num, by rw [cntL_seen He.out Hmay.out Hsn.out]; exact (Hm9.out.ext Hy.out).keep (ok := fun i => i ≠ gt + 1) ((Keeps.refl _ _).setCell (fun _ h => h rfl) _) (by omega), by rw [Hst.out, ← Hstp9.out]; exact (HR9.out.go Hy.out).setRow (j := 3) Hrat9.out rfl (by decide) (by omega) (by omega) hsz1⟩, ?_⟩
                            simp [intOf]; omega
                  · have L9 := look_h HS2.out e hsn
                    have Hst := Lib.hid (cntL_stay (xn := xs name) He.out (.inr hsn))
                    clear hsn
                    go_wp2_with fail
                    go_roundw
                    case rel => exact ⟨k + 1, by omega, by go_num, by rw [Hst.out.1]; exact HS2.out, by rw [Hst.out.2]; exact HR2.out⟩
                    case measure => simp [intOf]; omega
              · obtain rfl : k = n := by omega
                have HF := Lib.hid (List.take_of_length_le (Nat.le_of_eq Hse.out.1))
                go_wp2_with fail
                go_ret
                refine ⟨gt + 1, rfl, ?_, by omega, Hrep.out.ext⟩
                have := Hrep.out.row
                rwa [HF.out] at this
          · have hN := fun (ty : TypeId) => show (Instr.next (.pointer (some ⟨gi, 0, none⟩)) false ty).run Tryd.prog wr = .ok (.tuple #[.bool true, .string p.1, .int .i64 p.2]) w7 from hN0
            have hE : (Instr.entry (.pointer (some ⟨gi, 0, none⟩))).run Tryd.prog w7 = .ok (.tuple #[.string p.1, .int .i64 p.2]) w7 := hE0
            have hrep7 := hrep.keep hk7 (by omega) (by omega) (by omega) hsz1
            obtain ⟨hin, hpsz⟩ := Hex.out p hp
            have hat := armT_at hin
            have hni := armNo_in t p.1 hone
            obtain ⟨j, hj⟩ : ∃ j : Nat, armNo t p.1 = j := ⟨(armNo t p.1).toNat, by omega⟩
            rw [hj] at hat hni
            simp only [Int.toNat_natCast] at hat
            have hjl : j < t.arms.length := by omega
            have hcnt : ds.countP (fun d => armNo t d == (j : Int)) ≤ ds.length := List.countP_le_length
            obtain ⟨q, hq⟩ : ∃ q, q = ds.countP (fun d => armNo t d == (j : Int)) := ⟨_, rfl⟩
            have hrat := rowsP_at (t := t) (ds := ds) hat
            have hstp := rowsP_step (ds := ds) hj hat
            rw [← hq] at hcnt hrat hstp
            have hget := place_get Hpl.out hjl hat
            have hdl2 : (ds ++ [p.1]).length ≤ (xs name).length := by
              obtain ⟨_, _, _, _, _, _, _, _, _, _, _, _, _, hnd, hsub⟩ := hit7
              have := nodup_sub_len _ _ hnd hsub
              simpa using this
            have Hrep7 := Lib.hid hrep7
            have Hit7 := Lib.hid hit7
            have Hrat := Lib.hid hrat
            have Hstp := Lib.hid hstp
            have Hget := Lib.hid hget
            have r0 := blk_cell hrep7.box 0 rfl
            have r1 := blk_cell hrep7.box 1 rfl
            have r2 := blk_cell hrep7.box 2 rfl
            have r3 := blk_cell hrep7.box 3 rfl
            have r4 := blk_cell hrep7.box 4 rfl
            clear hN0 hE0 hit hrep hrep7 hit7 hk7 hat hj hq hrat hstp hget
            go_wp2_with fail
            refine (tr_Arm t p.1 A c _ _ (Hs1.out.ext Hrep7.out.ext) hc Hwf.out hpsz).mono ?_
            rw [hin]
            rintro _ w8 ⟨rfl, hx8⟩
            have hrep8 := Hrep7.out.go hx8
            have L8 := look_p hrep8.mp (armT t p.1) (j : Int) Hget.out
            have c8 := blk_cell hrep8.row (j * 4 + 1) (rowsC_at Hrat.out 1 rfl)
            have f8 := blk_free hrep8.row
            have j0 : (0 : Int) ≤ (j : Int) := by omega
            have j1 : (j : Int) < (t.arms.length : Int) := by omega
            have Hr9 := Lib.hid (hrep8.setRow (j := 1) (u := .int .i64 ((q : Int) + 1)) (r' := ⟨armT t p.1, (q : Int) + 1, 0, 0⟩) Hrat.out rfl (by decide) (by omega) (by omega) hsz1)
            have Hit9 := Lib.hid ((Hit7.out.keep hx8 trivial trivial).keep (ok := fun k => k ≠ gt + 1) (w' := w8.setCell ⟨gt + 1, j * 4 + 1, none⟩ (.int .i64 ((q : Int) + 1))) ((Keeps.refl _ _).setCell (fun _ h => h rfl) _) (by omega) (by omega))
            clear r0 r1 r2 r3 r4 hrep8 hx8 hE hN
            go_wp2_with fail
            go_roundg ((xs name).length - (ds ++ [p.1]).length)
            case measure => rw [Hgk.out]; simp at hdl2 ⊢; omega
            case rel => exact ⟨ds ++ [p.1], rfl, Hit9.out, by rw [← Hstp.out]; exact Hr9.out⟩
end Go.Proofs.YtdkgphambjnbiaaDoor
