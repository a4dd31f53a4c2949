/-
  What is proved here: the document's Find, since and twin. Conditions: at most a thousand trials, exposures and events, short texts.
-/
import Derived.Test.YtdkgphambjnbiaaDoorTrX
import Derived.Test.YtdkgphambjnbiaaDoorEvRMay
namespace Go.Proofs.YtdkgphambjnbiaaDoor
open Go Go.RowKit Go.Proofs
attribute [local go_sem ↓] Go.wp_at_zero Go.wp_at_succ

set_option maxRecDepth 100000 in
set_option maxHeartbeats 2000000 in
theorem rf_Find (A : Option Addr) (n c : Nat) (l : List Tr) (name : ByteArray) (ok : Nat → Prop) (w : World) (hs : Sl trR ok w A n l) (hn : n ≤ 1000) :
    Calls Tryd.prog 38 #[.slice A n c, .string name] w fun r w' => r = .returned (.int .i64 (idxT (fun o => o.name == name) l)) ∧ w = w' := by
  have Hs := Lib.hid hs
  have Hl := Lib.hid hs.1
  clear hs
  go_enter Tryd.func38, Tryd.ntmps38
  go_wp2_with fail
  go_loopw [5] (fun i wr => ∃ k : Nat, k ≤ n ∧ i = .int .i64 k ∧ (l.take k).any (fun o => o.name == name) = false ∧ wr = w) (fun i _ => n - (intOf i).toNat)
  case atStart => exact ⟨0, Nat.zero_le _, rfl, by simp, rfl⟩
  case round =>
    obtain ⟨k, hk, rfl, hany, rfl⟩ := hrel
    have Hany := Lib.hid hany
    clear hany
    by_cases hlt : k < n
    · obtain ⟨b, o', t, A', c', rfl, hb, ho, ht, hc', hs', d0, d1, d2, d3, d4⟩ := Hs.out.tr hlt
      have Ht := Lib.hid ht
      have i0 : (0 : Int) ≤ (k : Int) := by omega
      have i1 : (k : Int) < (n : Int) := by omega
      have hsb : (t.name == name) = (t.name.toList == name.toList) := beq_toListBytes _ _
      clear ht hs' d1 d2 d3 d4
      cases h1 : (t.name == name)
      · rw [h1] at hsb
        have s1 : (t.name.toList == name.toList) = false := hsb.symm
        have Hst := Lib.hid (show (l.take (k + 1)).any (fun o => o.name == name) = false by rw [List.take_add_one, Ht.out, List.any_append, Hany.out]; simp [h1])
        clear hsb h1
        go_wp2_with fail
        go_roundw
        case rel => exact ⟨k + 1, by omega, by go_num, Hst.out, trivial⟩
        case measure => simp [intOf]; omega
      · rw [h1] at hsb
        have s1 : (t.name.toList == name.toList) = true := hsb.symm
        have Hf := Lib.hid (idxT_hit (p := fun o => o.name == name) Ht.out h1 Hany.out)
        clear hsb h1
        go_wp2_with fail
        go_ret
        exact ⟨by rw [Hf.out]; rfl, rfl⟩
    · obtain rfl : k = n := by omega
      have Hf := Lib.hid (show idxT (fun o => o.name == name) l = -1 from idxT_no (by
        have h9 := Hany.out
        rw [List.take_of_length_le (Nat.le_of_eq Hl.out)] at h9
        rw [List.findIdx?_eq_none_iff]
        intro x hx
        have := List.any_eq_false.1 h9 x hx
        simpa using this))
      go_wp2_with fail
      go_ret
      exact ⟨by rw [Hf.out]; rfl, rfl⟩

set_option maxRecDepth 100000 in
set_option maxHeartbeats 4000000 in
theorem rf_since (A : Option Addr) (n c : Nat) (l : List Xp) (name p : ByteArray) (ok : Nat → Prop) (w : World) (hs : Sl xpR ok w A n l) (hn : n ≤ 1000) :
    Calls Tryd.prog 44 #[.slice A n c, .string name, .string p] w fun r w' => r = .returned (.int .i64 (sinceX l name p)) ∧ w = w' := by
  have Hs := Lib.hid hs
  have Hl := Lib.hid hs.1
  clear hs
  go_enter Tryd.func44, Tryd.ntmps44
  go_wp2_with fail
  go_loopw [7, 8] (fun a i wr => ∃ (k : Nat) (z : Int), k ≤ n ∧ i = .int .i64 k ∧ a = .int .i64 z ∧ z = sinceX (l.take k) name p ∧ wr = w) (fun _ i _ => n - (intOf i).toNat)
  case atStart => exact ⟨0, -1, Nat.zero_le _, rfl, rfl, rfl, rfl⟩
  case round =>
    obtain ⟨k, z, hk, rfl, rfl, hz, rfl⟩ := hrel
    have Hz := Lib.hid hz
    clear hz
    by_cases hlt : k < n
    · obtain ⟨b, o', x, rfl, hb, ho, hx, d0, d1, d2⟩ := Hs.out.xp hlt
      have Hst := Lib.hid (sinceX_take name p hx)
      have i0 : (0 : Int) ≤ (k : Int) := by omega
      have i1 : (k : Int) < (n : Int) := by omega
      have hs1 : (x.trial == name) = (x.trial.toList == name.toList) := beq_toListBytes _ _
      have hs2 : (x.person == p) = (x.person.toList == p.toList) := beq_toListBytes _ _
      clear hx
      cases h1 : (x.trial == name)
      · rw [h1] at hs1
        have s1 : (x.trial.toList == name.toList) = false := hs1.symm
        have Hn := Lib.hid (show sinceX (l.take (k + 1)) name p = z by rw [Hst.out, ← Hz.out]; unfold sinceStep; rw [h1]; rfl)
        clear hs1 hs2 h1
        go_wp2_with fail
        go_roundw
        case rel => exact ⟨k + 1, z, by omega, by go_num, rfl, Hn.out.symm, trivial⟩
        case measure => simp [intOf]; omega
      · rw [h1] at hs1
        have s1 : (x.trial.toList == name.toList) = true := hs1.symm
        cases h2 : (x.person == p)
        · rw [h2] at hs2
          have s2 : (x.person.toList == p.toList) = false := hs2.symm
          have Hn := Lib.hid (show sinceX (l.take (k + 1)) name p = z by rw [Hst.out, ← Hz.out]; unfold sinceStep; rw [h1, h2]; rfl)
          clear hs1 hs2 h1 h2
          go_wp2_with fail
          go_roundw
          case rel => exact ⟨k + 1, z, by omega, by go_num, rfl, Hn.out.symm, trivial⟩
          case measure => simp [intOf]; omega
        · rw [h2] at hs2
          have s2 : (x.person.toList == p.toList) = true := hs2.symm
          by_cases h3 : z < 0
          · have d3 : decide (z < 0) = true := by simpa using h3
            have Hn := Lib.hid (show sinceX (l.take (k + 1)) name p = x.tick by rw [Hst.out, ← Hz.out]; unfold sinceStep; rw [h1, h2, d3]; rfl)
            clear hs1 hs2 h1 h2
            go_wp2_with fail
            go_roundw
            case rel => exact ⟨k + 1, x.tick, by omega, by go_num, rfl, Hn.out.symm, trivial⟩
            case measure => simp [intOf]; omega
          · have d3 : decide (z < 0) = false := by simpa using h3
            by_cases h4 : x.tick < z
            · have d4 : decide (x.tick < z) = true := by simpa using h4
              have Hn := Lib.hid (show sinceX (l.take (k + 1)) name p = x.tick by rw [Hst.out, ← Hz.out]; unfold sinceStep; rw [h1, h2, d3, d4]; rfl)
              clear hs1 hs2 h1 h2
              go_wp2_with fail
              go_roundw
              case rel => exact ⟨k + 1, x.tick, by omega, by go_num, rfl, Hn.out.symm, trivial⟩
              case measure => simp [intOf]; omega
            · have d4 : decide (x.tick < z) = false := by simpa using h4
              have Hn := Lib.hid (show sinceX (l.take (k + 1)) name p = z by rw [Hst.out, ← Hz.out]; unfold sinceStep; rw [h1, h2, d3, d4]; rfl)
              clear hs1 hs2 h1 h2
              go_wp2_with fail
              go_roundw
              case rel => exact ⟨k + 1, z, by omega, by go_num, rfl, Hn.out.symm, trivial⟩
              case measure => simp [intOf]; omega
    · obtain rfl : k = n := by omega
      have HF := Lib.hid (show z = sinceX l name p by have := Hz.out; rwa [List.take_of_length_le (Nat.le_of_eq Hl.out)] at this)
      go_wp2_with fail
      go_ret
      exact ⟨by rw [HF.out]; rfl, rfl⟩

set_option maxRecDepth 100000 in
set_option maxHeartbeats 4000000 in
theorem rf_twin (A : Option Addr) (n c : Nat) (l : List Ev) (e : Ev) (ok : Nat → Prop) (w : World) (hs : Sl evR ok w A n l) (hn : n ≤ 1000) (hsm : ∀ x ∈ l, EvSm x) :
    Calls Tryd.prog 43 #[.slice A n c, .agg #[.string e.src, .int .i64 e.num, .int .i64 e.tick, .int .i64 e.kind, .string e.person, .string e.item, .int .i64 e.value, .string e.text]] w fun r w' => r = .returned (.bool (l.any fun x => mayE x && sameI x e)) ∧ Ext w w' := by
  have Hs := Lib.hid hs
  have Hl := Lib.hid hs.1
  have HSM := Lib.hid hsm
  clear hs hsm
  go_enter Tryd.func43, Tryd.ntmps43
  go_wp2_with fail
  obtain ⟨X, hX⟩ : ∃ X, X = w.alloc (.cells #[.string e.src, .int .i64 e.num, .int .i64 e.tick, .int .i64 e.kind, .string e.person, .string e.item, .int .i64 e.value, .string e.text] 62) := ⟨_, rfl⟩
  have HX := Lib.hid (show Ext w X by rw [hX]; exact (Keeps.refl _ _).alloc _)
  have HgX := Lib.hid (show X.heap[w.heap.size]? = some (.cells #[.string e.src, .int .i64 e.num, .int .i64 e.tick, .int .i64 e.kind, .string e.person, .string e.item, .int .i64 e.value, .string e.text] 62) by rw [hX]; exact blk_new _ _)
  try rw [← hX]
  go_loopw [5] (fun i wr => ∃ k : Nat, k ≤ n ∧ i = .int .i64 k ∧ (l.take k).any (fun x => mayE x && sameI x e) = false ∧ Ext X wr) (fun i _ => n - (intOf i).toNat)
  case atStart => exact ⟨0, Nat.zero_le _, rfl, by simp, by rw [hX]; exact Keeps.refl _ _⟩
  case round =>
    obtain ⟨k, hk, rfl, hany, hx⟩ := hrel
    have Hany := Lib.hid hany
    have Hx := Lib.hid hx
    have gx := hx.blk HgX.out
    have e0 := blk_cell gx 0 rfl
    have e1 := blk_cell gx 1 rfl
    have hwx := (Array.getElem?_eq_some_iff.1 gx).1
    clear hany hx gx hX
    by_cases hlt : k < n
    · obtain ⟨b, o, y, rfl, hb, _, he, d0, d1, d2, d3, d4, d5, d6, d7⟩ := (Hs.out.ext (HX.out.trans Hx.out)).ev hlt
      have He := Lib.hid he
      have Hsm := Lib.hid (HSM.out y (List.mem_of_getElem? he))
      have j0 : (0 : Int) ≤ (k : Int) := by omega
      have j1 : (k : Int) < (n : Int) := by omega
      have hsb : (y.src == e.src) = (y.src.toList == e.src.toList) := beq_toListBytes _ _
      have Hst := Lib.hid (show (mayE y && sameI y e) = false → (l.take (k + 1)).any (fun x => mayE x && sameI x e) = false from fun h => by rw [List.take_add_one, He.out, List.any_append, Hany.out]; simp only [Option.toList_some, List.any_cons, List.any_nil, h]; rfl)
      have Hye := Lib.hid (show (mayE y && sameI y e) = true → l.any (fun x => mayE x && sameI x e) = true from fun h => List.any_eq_true.2 ⟨y, List.mem_of_getElem? He.out, h⟩)
      obtain ⟨bm, hbm⟩ : ∃ bm, bm = mayE y := ⟨_, rfl⟩
      have CM := Lib.hid (fun (W : World) => show Calls Tryd.prog 42 #[.agg #[.string y.src, .int .i64 y.num, .int .i64 y.tick, .int .i64 y.kind, .string y.person, .string y.item, .int .i64 y.value, .string y.text]] W (fun r w' => r = .returned (.bool bm) ∧ Ext W w') by rw [hbm]; exact ref_May y W Hsm.out)
      rw [← hbm] at Hst Hye
      clear he hbm
      cases bm
      · have Hstn := Lib.hid (Hst.out rfl)
        clear hsb
        go_upto_region 4 with fail
        refine wp_region_ext wr (Keeps.refl _ _) (by kernel_rfl) (by kernel_rfl) ?_
        have hcell := fun (y : XW wr) => y.cell
        repeat (go_big_quiet_step (first | (go_at_call 42; with_reducible exact ext_calls (CM.out _))))
        refine wpQuiet_nil ?_
        rintro _ ⟨y0, rfl⟩
        clear hcell d0 d1 d2 d3 d4 d5 d6 d7 e0 e1
        go_wp2_with fail
        go_roundw
        case rel => exact ⟨k + 1, by omega, by go_num, Hstn.out, Hx.out.trans y0.h⟩
        case measure => simp [intOf]; omega
      cases hsr : (y.src == e.src)
      · rw [hsr] at hsb
        have s1 : (y.src.toList == e.src.toList) = false := hsb.symm
        have Hstn := Lib.hid (Hst.out (show (true && sameI y e) = false by unfold sameI; rw [hsr]; rfl))
        clear hsb hsr
        go_upto_region 4 with fail
        refine wp_region_ext wr (Keeps.refl _ _) (by kernel_rfl) (by kernel_rfl) ?_
        have hcell := fun (y : XW wr) => y.cell
        repeat (go_big_quiet_step (first | (go_at_call 42; with_reducible exact ext_calls (CM.out _))))
        refine wpQuiet_nil ?_
        rintro _ ⟨y0, rfl⟩
        clear hcell d0 d1 d2 d3 d4 d5 d6 d7 e0 e1
        go_wp2_with fail
        go_roundw
        case rel => exact ⟨k + 1, by omega, by go_num, Hstn.out, Hx.out.trans y0.h⟩
        case measure => simp [intOf]; omega
      · rw [hsr] at hsb
        have s1 : (y.src.toList == e.src.toList) = true := hsb.symm
        by_cases hnr : y.num = e.num
        · have s2 : (y.num == e.num) = true := by simpa using hnr
          have Hf := Lib.hid (Hye.out (show (true && sameI y e) = true by unfold sameI; rw [hsr, hnr]; simp))
          clear hsb hsr hnr
          go_upto_region 4 with fail
          refine wp_region_ext wr (Keeps.refl _ _) (by kernel_rfl) (by kernel_rfl) ?_
          have hcell := fun (y : XW wr) => y.cell
          repeat (go_big_quiet_step (first | (go_at_call 42; with_reducible exact ext_calls (CM.out _))))
          refine wpQuiet_nil ?_
          rintro _ ⟨y0, rfl⟩
          clear hcell d0 d1 d2 d3 d4 d5 d6 d7 e0 e1
          go_wp2_with fail
          go_ret
          exact ⟨by rw [Hf.out]; rfl, HX.out.trans (Hx.out.trans y0.h)⟩
        · have s2 : (y.num == e.num) = false := by simpa using hnr
          have Hstn := Lib.hid (Hst.out (show (true && sameI y e) = false by unfold sameI; rw [hsr]; simpa using hnr))
          clear hsb hsr hnr
          go_upto_region 4 with fail
          refine wp_region_ext wr (Keeps.refl _ _) (by kernel_rfl) (by kernel_rfl) ?_
          have hcell := fun (y : XW wr) => y.cell
          repeat (go_big_quiet_step (first | (go_at_call 42; with_reducible exact ext_calls (CM.out _))))
          refine wpQuiet_nil ?_
          rintro _ ⟨y0, rfl⟩
          clear hcell d0 d1 d2 d3 d4 d5 d6 d7 e0 e1
          go_wp2_with fail
          go_roundw
          case rel => exact ⟨k + 1, by omega, by go_num, Hstn.out, Hx.out.trans y0.h⟩
          case measure => simp [intOf]; omega
    · obtain rfl : k = n := by omega
      have Hend := Lib.hid (show l.any (fun x => mayE x && sameI x e) = false by have h9 := Hany.out; rwa [List.take_of_length_le (Nat.le_of_eq Hl.out)] at h9)
      go_wp2_with fail
      go_ret
      exact ⟨by rw [Hend.out]; rfl, HX.out.trans Hx.out⟩
end Go.Proofs.YtdkgphambjnbiaaDoor
