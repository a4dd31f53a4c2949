/-
  What is proved here: the report of a trial without events: who is exposed, by arms. Conditions: at most a thousand trials and people.
-/
import Derived.Test.YtdkgphambjnbiaaDoorTrRep
import Derived.Deep.LoopGhost
namespace Go.Proofs.YtdkgphambjnbiaaDoor
open Go Go.RowKit Go.Proofs
attribute [local go_sem ↓] Go.wp_at_zero Go.wp_at_succ

theorem nodup_sub_len {α : Type} : ∀ (ds l : List α), ds.Nodup → (∀ d ∈ ds, d ∈ l) → ds.length ≤ l.length
  | [], _, _, _ => Nat.zero_le _
  | d :: ds, l, hn, hs => by
    obtain ⟨l1, l2, rfl⟩ := List.append_of_mem (hs d (by simp))
    rw [List.nodup_cons] at hn
    have := nodup_sub_len ds (l1 ++ l2) hn.2 (fun x hx => by
      have hm := hs x (by simp [hx])
      rcases List.mem_append.1 hm with h | h
      · simp [h]
      · rcases List.mem_cons.1 h with e | h
        · exact absurd (e ▸ hx) hn.1
        · simp [h])
    simp at this ⊢
    omega

set_option maxRecDepth 100000 in
set_option maxHeartbeats 4000000 in
theorem rep_nil (b m lim : Nat) (v : Value) (outer : List (ByteArray × Nat)) (ts : List Tr) (xs : ByteArray → List (ByteArray × Int)) (name : ByteArray) (w : World) (h : BookX w b m lim v outer ts xs) (hn : ts.length ≤ 1000) (i : Nat) (t : Tr) (hi : ts.findIdx? (fun o => o.name == name) = some i) (ht : ts[i]? = some t) (hwf : TrWf t) (hm : mayT t = true)
    (hex : ∀ p ∈ xs name, inT t p.1 = true ∧ p.1.size < maxLen) (hnx : (xs name).length ≤ 1000) :
    Calls Tryd.prog 25 #[.pointer (some ⟨b, 0, none⟩), .string name, .slice none 0 0] w fun r w' => ∃ g, r = .returned (.slice (some ⟨g, 0, none⟩) t.arms.length t.arms.length) ∧ w'.heap[g]? = some (.cells (rowsC (rowsP t ((xs name).map (·.1)))) 52) ∧ w.heap.size ≤ g ∧ Ext w w' := by
  have Hf := Lib.hid (bk_find_yes b m lim v outer ts xs name w h hn i t hi ht)
  have Hwf := Lib.hid hwf
  have hpt := mayT_parts hm
  have hone := hpt.one
  have hfew := hpt.few
  have Hnd := Lib.hid (armsOk_nodup hpt.arms)
  have Hh := Lib.hid h
  have Hex := Lib.hid hex
  have hmm := @run_makeMap Tryd.prog
  have hmk := made_rows t.arms.length (by omega)
  clear h hi ht hwf hm hpt hex
  go_enter Tryd.func25, Tryd.ntmps25
  go_wp2_with (go_at_call 39; refine Hf.out.mono ?_; rintro _ w1 ⟨A, c, rfl, hc, hs1, hx1⟩; have Hx1 := Lib.hid hx1; have Hs1 := Lib.hid hs1; clear hx1 hs1)
  have hsz1 : w.heap.size ≤ w1.heap.size := Hx1.out.size
  go_loopw [41] (fun i wr => ∃ (k : Nat) (place : List (ByteArray × Int)), k ≤ t.arms.length ∧ i = .int .i64 k ∧ PlaceAt t.arms k place ∧ RepAt w w1.heap.size (w1.heap.size + 1) (w1.heap.size + 1 + 1) t A c (rows0 t.arms k) place wr) (fun i _ => t.arms.length - (intOf i).toNat)
  case atStart =>
    refine ⟨0, [], Nat.zero_le _, rfl, ⟨by simp, by simp⟩, ⟨blk_old (blk_old (blk_new _ _) _) _, blk_old ?_ _, ?_, ((Hx1.out.alloc _).alloc _).alloc _⟩⟩
    · rw [show rows0 t.arms 0 = List.replicate t.arms.length ⟨⟨#[]⟩, 0, 0, 0⟩ by simp [rows0]]
      exact blk_new' _ _ _ (by simp)
    · have := Mp.new (K := (strK (P := Tryd.prog) (kt := 9) Tryd.underlying9)) (V := intV) ((w1.alloc (.cells #[.string t.name, .string t.layer, .int .i64 t.lo, .int .i64 t.hi, .slice A t.arms.length c] 29)).alloc (.cells (rowsC (List.replicate t.arms.length ⟨⟨#[]⟩, 0, 0, 0⟩)) 52))
      simpa using this
  case round =>
    obtain ⟨k, place, hk, rfl, hpl, hrep⟩ := hrel
    have Hpl := Lib.hid hpl
    have Hrep := Lib.hid hrep
    clear hpl hrep
    obtain ⟨gt, hgt⟩ : ∃ gt, gt = w1.heap.size := ⟨_, rfl⟩
    rw [← hgt] at Hrep hsz1 ⊢
    clear hgt
    by_cases hlt : k < t.arms.length
    · obtain ⟨b2, o2, s, rfl, hb2, _, hs2, hc2⟩ := (Hs1.out.ext Hrep.out.ext).str hlt
      have Hs2 := Lib.hid hs2
      have i0 : (0 : Int) ≤ (k : Int) := by omega
      have i1 : (k : Int) < (t.arms.length : Int) := by omega
      have hrow := Hrep.out.row
      have r0 := blk_cell hrow (k * 4) (rowsC_at (rows0_at hlt) 0 rfl)
      have f0 := blk_free hrow
      have hr2 := Hrep.out.setRow (j := 0) (u := .string s) (r' := ⟨s, 0, 0, 0⟩) (rows0_at hlt) rfl (by decide) (by omega) (by omega) hsz1
      rw [rows0_step hs2] at hr2
      simp only [Nat.add_zero] at hr2
      obtain ⟨w5, P2, hm5, hk5⟩ := put_i hr2.mp s (k : Int)
      have Hr5 := Lib.hid (hr2.setPlace hk5 hm5 (by omega) (by omega) hsz1)
      have Hp5 := Lib.hid (place_step Hnd.out Hpl.out hs2)
      clear hs2 hrow hr2 hm5 hk5
      go_wp2_with fail
      go_roundw
      case rel => exact ⟨k + 1, _, by omega, by go_num, Hp5.out, Hr5.out⟩
      case measure => simp [intOf]; omega
    · obtain rfl : k = t.arms.length := by omega
      have hB := Hh.out.ext Hrep.out.ext
      have q1 := blk_cell hB.blk 1 rfl
      have hRep2 : RepAt w gt (gt + 1) (gt + 1 + 1) t A c (rowsP t []) place wr := by rw [rowsP_nil]; exact Hrep.out
      have HRep2 := Lib.hid hRep2
      clear hRep2 Hrep
      have hlw := hB.lw
      have hbl := hB.bl
      have hbwr : b < wr.heap.size := by omega
      cases hg : getM (fun a b : ByteArray => a == b) outer name with
      | none =>
        have L1 := look_m hB.mp name none hg
        have hR := run_range_nilMap (P := Tryd.prog) wr 79 _ _ Tryd.underlying79
        have hN := fun (ty : TypeId) => run_next_nilMap (P := Tryd.prog) wr ty 0 0 #[]
        have HB := Lib.hid hB
        have Hxn := Lib.hid (Hh.out.none name hg)
        clear hB hg
        go_wp2_with fail
        go_loopw [13] (fun _ wr' => wr' = wr.alloc (.mapIter none 0 #[] 0)) (fun _ _ => 0)
        case atStart => rfl
        case round =>
          obtain rfl := hrel
          go_wp2_with fail
          go_loopw [85] (fun i wr' => i = .int .i64 0 ∧ wr' = (wr.alloc (.mapIter none 0 #[] 0)).alloc (.map #[] 0)) (fun _ _ => 0)
          case atStart => exact ⟨rfl, rfl⟩
          case round =>
            obtain ⟨rfl, rfl⟩ := hrel
            go_wp2_with fail
            go_ret
            refine ⟨gt + 1, rfl, blk_old (blk_old ?_ _) _, by omega, (HRep2.out.ext.alloc _).alloc _⟩
            rw [Hxn.out]
            exact HRep2.out.row
      | some mi =>
        have L1 := look_m hB.mp name (some mi) hg
        have hmi := hB.inn _ (getM_mem hg)
        simp only at hmi
        obtain ⟨w6, hR, hIt, hx6⟩ := hmi.range Tryd.underlying79
        have hmil := hB.far _ (getM_mem hg)
        have hmilt := hmi.lt
        have hmw := (Hh.out.inn _ (getM_mem hg)).lt
        simp only at hmw
        have HIt := Lib.hid hIt
        have HRep3 := Lib.hid (HRep2.out.go hx6)
        have Hkeys := Lib.hid hmi.keys
        have hgp := HRep2.out.mp.lt
        obtain ⟨gi, hgi⟩ : ∃ gi, gi = wr.heap.size := ⟨_, rfl⟩
        rw [← hgi] at HIt hR hgp
        clear hgi
        clear hB hg hmi hIt hx6 HRep2
        go_wp2_with fail
        go_loopg [13] (xs name).length (fun g _ wr' => ∃ ds, g = (xs name).length - ds.length ∧ Iter (strK (P := Tryd.prog) (kt := 9) Tryd.underlying9) intV wr' gi mi (xs name) ds ∧ RepAt w gt (gt + 1) (gt + 1 + 1) t A c (rowsP t ds) place wr')
        case atStart => exact ⟨[], by simp, HIt.out, HRep3.out⟩
        case round =>
          obtain ⟨ds, hgk, hit, hrep⟩ := hrel
          have Hgk := Lib.hid hgk
          clear hgk
          have hdl : ds.length ≤ (xs name).length := by
            obtain ⟨_, _, _, _, _, _, _, _, _, _, _, _, _, hnd, hsub⟩ := hit
            have := nodup_sub_len _ _ hnd hsub
            simpa using this
          rcases hit.next 3 with ⟨hall, hN0⟩ | ⟨p, hp, hpd, w7, hN0, hE0, hit7, hk7⟩
          · have hN := fun (ty : TypeId) => show (Instr.next (.pointer (some ⟨gi, 0, none⟩)) false ty).run Tryd.prog wr = _ from hN0
            have Hperm := Lib.hid (show rowsP t ds = rowsP t ((xs name).map (·.1)) by
              obtain ⟨_, _, _, _, _, _, _, _, _, _, _, _, _, hnd, hsub⟩ := hit
              exact rowsP_perm (perm_of hnd Hkeys.out hsub (fun d hd => by obtain ⟨q, hq, rfl⟩ := List.mem_map.1 hd; exact hall q hq)))
            have Hrep := Lib.hid hrep
            clear hN0 hall hit hrep
            go_wp2_with fail
            go_loopw [85] (fun i wr' => i = .int .i64 0 ∧ wr' = wr.alloc (.map #[] 0)) (fun _ _ => 0)
            case atStart => exact ⟨rfl, rfl⟩
            case round =>
              obtain ⟨rfl, rfl⟩ := hrel
              go_wp2_with fail
              go_ret
              refine ⟨gt + 1, rfl, blk_old ?_ _, by omega, Hrep.out.ext.alloc _⟩
              rw [← Hperm.out]
              exact Hrep.out.row
          · have hN := fun (ty : TypeId) => show (Instr.next (.pointer (some ⟨gi, 0, none⟩)) false ty).run Tryd.prog wr = .ok (.tuple #[.bool true, .string p.1, .int .i64 p.2]) w7 from hN0
            have hE : (Instr.entry (.pointer (some ⟨gi, 0, none⟩))).run Tryd.prog w7 = .ok (.tuple #[.string p.1, .int .i64 p.2]) w7 := hE0
            have hrep7 := hrep.keep hk7 (by omega) (by omega) (by omega) hsz1
            obtain ⟨hin, hpsz⟩ := Hex.out p hp
            have hat := armT_at hin
            have hni := armNo_in t p.1 hone
            obtain ⟨j, hj⟩ : ∃ j : Nat, armNo t p.1 = j := ⟨(armNo t p.1).toNat, by omega⟩
            rw [hj] at hat hni
            simp only [Int.toNat_natCast] at hat
            have hjl : j < t.arms.length := by omega
            have hcnt : ds.countP (fun d => armNo t d == (j : Int)) ≤ ds.length := List.countP_le_length
            obtain ⟨q, hq⟩ : ∃ q, q = ds.countP (fun d => armNo t d == (j : Int)) := ⟨_, rfl⟩
            have hrat := rowsP_at (t := t) (ds := ds) hat
            have hstp := rowsP_step (ds := ds) hj hat
            rw [← hq] at hcnt hrat hstp
            have hget := place_get Hpl.out hjl hat
            have hdl2 : (ds ++ [p.1]).length ≤ (xs name).length := by
              obtain ⟨_, _, _, _, _, _, _, _, _, _, _, _, _, hnd, hsub⟩ := hit7
              have := nodup_sub_len _ _ hnd hsub
              simpa using this
            have Hrep7 := Lib.hid hrep7
            have Hit7 := Lib.hid hit7
            have Hrat := Lib.hid hrat
            have Hstp := Lib.hid hstp
            have Hget := Lib.hid hget
            have r0 := blk_cell hrep7.box 0 rfl
            have r1 := blk_cell hrep7.box 1 rfl
            have r2 := blk_cell hrep7.box 2 rfl
            have r3 := blk_cell hrep7.box 3 rfl
            have r4 := blk_cell hrep7.box 4 rfl
            clear hN0 hE0 hit hrep hrep7 hit7 hk7 hat hj hq hrat hstp hget
            go_wp2_with fail
            refine (tr_Arm t p.1 A c _ _ (Hs1.out.ext Hrep7.out.ext) hc Hwf.out hpsz).mono ?_
            rw [hin]
            rintro _ w8 ⟨rfl, hx8⟩
            have hrep8 := Hrep7.out.go hx8
            have L8 := look_p hrep8.mp (armT t p.1) (j : Int) Hget.out
            have c8 := blk_cell hrep8.row (j * 4 + 1) (rowsC_at Hrat.out 1 rfl)
            have f8 := blk_free hrep8.row
            have j0 : (0 : Int) ≤ (j : Int) := by omega
            have j1 : (j : Int) < (t.arms.length : Int) := by omega
            have Hr9 := Lib.hid (hrep8.setRow (j := 1) (u := .int .i64 ((q : Int) + 1)) (r' := ⟨armT t p.1, (q : Int) + 1, 0, 0⟩) Hrat.out rfl (by decide) (by omega) (by omega) hsz1)
            have Hit9 := Lib.hid ((Hit7.out.keep hx8 trivial trivial).keep (ok := fun k => k ≠ gt + 1) (w' := w8.setCell ⟨gt + 1, j * 4 + 1, none⟩ (.int .i64 ((q : Int) + 1))) ((Keeps.refl _ _).setCell (fun _ h => h rfl) _) (by omega) (by omega))
            clear r0 r1 r2 r3 r4 hrep8 hx8 hE hN
            go_wp2_with fail
            go_roundg ((xs name).length - (ds ++ [p.1]).length)
            case measure => rw [Hgk.out]; simp at hdl2 ⊢; omega
            case rel => exact ⟨ds ++ [p.1], rfl, Hit9.out, by rw [← Hstp.out]; exact Hr9.out⟩
end Go.Proofs.YtdkgphambjnbiaaDoor
