/-
  What is proved here: the document's Sort of events is the plain function's list, in new memory. Conditions: at most a hundred thousand events.
-/
import Derived.Test.YtmhkgfoimkonoaaDoorSoS8
import Derived.Deep.RegionWith
namespace Go.Proofs.YtmhkgfoimkonoaaDoor
open Go Go.RowKit Go.Proofs
attribute [local go_sem ↓] Go.wp_at_zero Go.wp_at_succ
/-- One is put behind those that aren't behind it. -/
theorem ins_sorted {l : List Ev} {k j : Nat} {x : Ev} (hx : l[k]? = some x) (hgt : ∀ y ∈ (sortL lessE (l.take k)).drop j, lessE x y = true) (hle : ∀ z, ((sortL lessE (l.take k)).take j).getLast? = some z → lessE x z = false) :
    (sortL lessE (l.take k)).take j ++ [x] ++ (sortL lessE (l.take k)).drop j = sortL lessE (l.take (k + 1)) := by
  obtain ⟨h1, h2⟩ := sortL_ok lessE_swo (l.take k)
  have h3 : (sortL lessE (l.take k)).take j ++ (sortL lessE (l.take k)).drop j = sortL lessE (l.take k) := List.take_append_drop _ _
  rw [← h3] at h1
  obtain ⟨i1, i2⟩ := ins_at lessE_swo h1 hgt hle
  rw [h3] at i2
  rw [List.append_assoc, List.singleton_append]
  refine sortL_eq lessE_swo i1 ?_
  rw [List.take_add_one, hx]
  exact (h2.app (Cls.refl [x])).trans i2
def Ev8 (w : World) (b p : Nat) (e : Ev) : Prop := w.cell? ⟨b, p, none⟩ = some (.string e.src) ∧ w.cell? ⟨b, p + 1, none⟩ = some (.int .i64 e.num) ∧ w.cell? ⟨b, p + 2, none⟩ = some (.int .i64 e.tick) ∧ w.cell? ⟨b, p + 3, none⟩ = some (.int .i64 e.kind) ∧ w.cell? ⟨b, p + 4, none⟩ = some (.string e.person) ∧ w.cell? ⟨b, p + 5, none⟩ = some (.string e.item) ∧ w.cell? ⟨b, p + 6, none⟩ = some (.int .i64 e.value) ∧ w.cell? ⟨b, p + 7, none⟩ = some (.string e.text)
theorem ev8_ext {w w' : World} (hx : Ext w w') {b p : Nat} {e : Ev} (hb : b < w.heap.size) (h : Ev8 w b p e) : Ev8 w' b p e := by
  have hc := fun o => hx.cell (p := ⟨b, o, none⟩) hb trivial
  obtain ⟨h0, h1, h2, h3, h4, h5, h6, h7⟩ := h
  exact ⟨(hc _).trans h0, (hc _).trans h1, (hc _).trans h2, (hc _).trans h3, (hc _).trans h4, (hc _).trans h5, (hc _).trans h6, (hc _).trans h7⟩
theorem blk_new_ (w : World) (o : Obj) {g : Nat} (h : w.heap.size = g) : (w.alloc o).heap[g]? = some o := h ▸ blk_new w o
theorem Own.le {α : Type} {R : Rep α} {t : TypeId} {ok : Nat → Prop} {w : World} {base base' : Nat} {v : Value} {n : Nat} {l : List α} (h : Own R t ok w base v n l) (hb : base' ≤ base) : Own R t ok w base' v n l := by
  obtain ⟨hl, xss, ho, hx, hr⟩ := h
  refine ⟨hl, xss, ⟨ho.1, ?_⟩, hx, hr⟩
  rcases ho.2 with hn | ⟨g, cap, cur, hv, hbg, r⟩
  · exact .inl hn
  · exact .inr ⟨g, cap, cur, hv, Nat.le_trans hb hbg, r⟩
theorem Own.evSl {ok : Nat → Prop} {w : World} {base n c : Nat} {A : Option Addr} {l : List Ev} (h : Own evR 30 ok w base (.slice A n c) n l) : Sl evR (fun k => base ≤ k) w A n l := (Own.evs h).sl
set_option maxRecDepth 100000 in
set_option maxHeartbeats 4000000 in
theorem ref_Sort (A : Option Addr) (n c : Nat) (l : List Ev) (ok : Nat → Prop) (w : World) (hs : Sl evR ok w A n l) (hn : n ≤ 100000) :
    Calls Tryd.prog 13 #[.slice A n c] w fun e w' => ∃ B cb, e = .returned (.slice B n cb) ∧ n ≤ cb ∧ EvsAt w.heap.size w' B n (sortL lessE l) ∧ Ext w w' := by
  obtain ⟨i0, hi0, hz0, hz1, hz2⟩ := info_part3 info_apiEv
  have Hs := Lib.hid hs
  have Hl := Lib.hid hs.1
  clear hs
  go_enter Tryd.func13, Tryd.ntmps13
  go_wp2_with fail
  go_loopw [3, 4] (fun v i wr => ∃ (k : Nat) (B : Option Addr) (cb : Nat), k ≤ n ∧ i = .int .i64 k ∧ v = .slice B k cb ∧ Own evR 30 (fun _ => True) wr w.heap.size (.slice B k cb) k (sortL lessE (l.take k)) ∧ Ext w wr) (fun _ i _ => n - (intOf i).toNat)
  case atStart => exact ⟨0, _, 0, Nat.zero_le _, rfl, rfl, Own.new_nil (blk_new _ _) (Nat.le_refl _), (Keeps.refl _ _).alloc _⟩
  case round =>
    obtain ⟨k, B, cb, hk, rfl, rfl, hown, hx⟩ := hrel
    have Hown := Lib.hid hown
    have Hx := Lib.hid hx
    have hsz := hx.size
    have hcap := hown.cap
    have Hsl := Lib.hid hown.evSl
    have Hdl := Lib.hid hown.1
    clear hown hx
    by_cases hlt : k < n
    · obtain ⟨b, o, x, rfl, hb, _, he, d0, d1, d2, d3, d4, d5, d6, d7⟩ := (Hs.out.ext Hx.out).ev hlt
      have He := Lib.hid he
      have Hins := Lib.hid (fun j => ins_sorted (j := j) he)
      have i0' : (0 : Int) ≤ (k : Int) := by omega
      have i1' : (k : Int) < (n : Int) := by omega
      clear he
      obtain ⟨d, hd⟩ : ∃ d, d = sortL lessE (l.take k) := ⟨_, rfl⟩
      rw [← hd] at Hown Hsl Hins Hdl
      clear hd
      obtain ⟨V, hV⟩ : ∃ V, V = wr := ⟨_, rfl⟩
      rw [← hV] at Hown Hsl Hx hsz hb d0 d1 d2 d3 d4 d5 d6 d7 ⊢
      clear hV
      go_wp2_with fail
      go_loopw [5] (fun i wr => ∃ j : Nat, j ≤ k ∧ i = .int .i64 j ∧ (∀ y ∈ d.drop j, lessE x y = true) ∧ Ext V wr) (fun i _ => (intOf i).toNat)
      case atStart => exact ⟨k, Nat.le_refl _, rfl, by rw [List.drop_eq_nil_of_le (Nat.le_of_eq Hdl.out)]; exact fun _ h => (by cases h), Keeps.refl _ _⟩
      case round =>
        obtain ⟨j, hj, rfl, hgt, hx2⟩ := hrel
        have Hgt := Lib.hid hgt
        have Hx2 := Lib.hid hx2
        clear hgt hx2
        have hkn : k ≤ 100000 := by omega
        have j0 : (0 : Int) ≤ (j : Int) := by omega
        have j1 : (j : Int) ≤ (cb : Int) := by omega
        have j2 : (j : Int) ≤ (k : Int) := by omega
        rcases Nat.eq_zero_or_pos j with hj0 | hj0
        · have hj0' : decide (0 < (j : Int)) = false := by simp; omega
          go_upto_region 6 with fail
          refine wp_region_ext wr (Keeps.refl _ _) (by kernel_rfl) (by kernel_rfl) ?_
          repeat (go_big_quiet_step (fail))
          refine wpQuiet_nil ?_
          rintro _ ⟨y, rfl⟩
          obtain ⟨Z, hZ⟩ : ∃ Z, Z = y.w := ⟨_, rfl⟩
          have HZ := Lib.hid (show Ext V Z by rw [hZ]; exact Hx2.out.trans y.h)
          rw [← hZ]
          have Hle := Lib.hid (show ∀ z, (d.take j).getLast? = some z → lessE x z = false from fun z hz => by rw [hj0] at hz; simp at hz)
          clear hZ hj0
          have HslZ := Lib.hid (Hsl.out.ext HZ.out)
          have DZ := Lib.hid (ev8_ext HZ.out hb ⟨d0, d1, d2, d3, d4, d5, d6, d7⟩)
          have HbZ := Lib.hid (Nat.lt_of_lt_of_le hb HZ.out.size)
          have HwZ := Lib.hid Hx.out
          have hzz := HZ.out.size
          have Hfin := Lib.hid (fun (W : World) (B7 : Option Addr) (c7 : Nat) (h7 : j + 1 + (k - j) = k + 1) (h : Own evR 30 (fun _ => True) W w.heap.size (.slice B7 (j + 1 + (k - j)) c7) (j + 1 + (k - j)) (d.take j ++ [x] ++ d.drop j)) => show Own evR 30 (fun _ => True) W w.heap.size (.slice B7 (k + 1) c7) (k + 1) (sortL lessE (l.take (k + 1))) by rw [h7, Hins.out j Hgt.out Hle.out] at h; exact h)
          have Hcut := Lib.hid (HslZ.out.cut (k := j) (cap := cb) hj hcap)
          clear d0 d1 d2 d3 d4 d5 d6 d7
          obtain ⟨f0, f1, f2, f3, f4, f5, f6, f7⟩ := DZ.out
          have hbZ := HbZ.out
          go_upto_region 8 with fail
          go_cut [6] (fun s6 wc => ∃ B6 c6, s6 = .slice B6 (j + 1) c6 ∧ Own evR 30 (fun _ => True) wc Z.heap.size (.slice B6 (j + 1) c6) (j + 1) (d.take j ++ [x]) ∧ Ext Z wc)
          case first =>
            go_region_law (first | (refine step_append_Own (ok := fun _ => True) (R := evR) _ (by rfl) (.tmp 32) (.tmp 35) 22 (by rfl) 30 i0 _ 96 Z.heap.size Tryd.underlying22 hi0 hz0 hz1 hz2 rfl (by decide) (by rfl) (Own.new_nil (by first | exact blk_new _ _ | exact blk_old (blk_new _ _) _ | exact blk_new_ _ _ (by simp) | exact blk_old (blk_new_ _ _ (by simp)) _) (by first | omega | (simp; done) | (simp; omega))) _ j cb (d.take j) (by rfl) (Sl.flat_src evR_flat ((HslZ.out.to_ hj).ext (by repeat (first | with_reducible exact Keeps.refl _ _ | with_reducible refine Keeps.drew ?_ | with_reducible refine Keeps.drewN ?_ _ | with_reducible refine Keeps.alloc ?_ _)))) (by omega) (by decide) (by first | omega | (simp; done) | (simp; omega)) ?_; intro A5 c5 w5 hown5 hg5 hat5; simp only [Nat.zero_add, List.nil_append] at hown5 hg5 hat5; have hx5 : Ext Z w5 := Keeps.grown (by repeat (first | with_reducible exact Keeps.refl _ _ | with_reducible refine Keeps.drew ?_ | with_reducible refine Keeps.drewN ?_ _ | with_reducible refine Keeps.alloc ?_ _)) hg5 (fun g hg hl => by simp [Value.ownBlock] at hg; omega); obtain ⟨e0, e1, e2, e3, e4, e5, e6, e7⟩ := ev8_ext hx5 HbZ.out DZ.out; have hb5 := Nat.lt_of_lt_of_le HbZ.out hx5.size; have hz5 := hx5.size) | (refine step_append_Own (ok := fun _ => True) (R := evR) _ (by rfl) (.tmp 36) (.tmp 41) 22 (by rfl) 30 i0 _ 96 Z.heap.size Tryd.underlying22 hi0 hz0 hz1 hz2 rfl (by decide) (by rfl) (hown5.ext (by repeat (first | with_reducible exact Keeps.refl _ _ | with_reducible refine Keeps.drew ?_ | with_reducible refine Keeps.drewN ?_ _ | with_reducible refine Keeps.alloc ?_ _))) _ 1 1 [x] (by rfl) (Srcs.one_new rfl (by first | exact blk_new _ _ | exact (hg5.block _ (by first | omega | (simp; done) | (simp; omega)) (by simp [Value.ownBlock])).trans (by first | exact blk_new _ _ | exact blk_old (blk_new _ _) _ | exact blk_new_ _ _ (by simp) | exact blk_old (blk_new_ _ _ (by simp)) _)) rfl) (by omega) (by decide) (by first | omega | (simp; done) | (simp; omega)) ?_; intro A6 c6 w6 hown6 hg6 hat6; have hx6 : Ext Z w6 := Keeps.grown (by repeat (first | with_reducible exact hx5 | with_reducible exact Keeps.refl _ _ | with_reducible refine Keeps.drew ?_ | with_reducible refine Keeps.drewN ?_ _ | with_reducible refine Keeps.alloc ?_ _)) hg6 (fun g hg hl => by have := (hown5.lt g hg).1; omega)))
            all_goals
              go_wp2_with fail
              go_meet
              exact ⟨A6, c6, rfl, hown6, hx6⟩
          case rest =>
            obtain ⟨A6, c6, hv6, hown6, hx6⟩ := hcut
            obtain ⟨w6, hw6⟩ : ∃ w6, w6 = wc := ⟨_, rfl⟩
            rw [← hw6] at hown6 hx6 ⊢
            subst hv6
            have Hown6 := Lib.hid hown6
            have Hx6 := Lib.hid hx6
            have hz6 := hx6.size
            clear hown6 hx6 hw6 f0 f1 f2 f3 f4 f5 f6 f7
            by_cases hcb : cb = j
            · rw [if_pos hcb] at Hcut
              (go_wp2_with (at_builtin; refine wpList_append_Own (ok := fun _ => True) (R := evR) _ rfl (.tmp 43) (.tmp 46) 22 rfl 30 i0 _ 96 Z.heap.size Tryd.underlying22 hi0 hz0 hz1 hz2 rfl (by decide) rfl Hown6.out _ (k - j) _ (d.drop j) rfl (Sl.flat_src evR_flat (Hcut.out.ext Hx6.out)) (by omega) (by decide) (by omega) ?_; intro A7 c7 w7 hown7 hg7 hat7; have Hown7 := Lib.hid hown7; have Hx7 := Lib.hid (show Ext Z w7 from Keeps.grown Hx6.out hg7 (fun g hg hl => by have := (Hown6.out.lt g hg).1; omega)); clear hown7 hg7 hat7); go_roundw; (case rel => exact ⟨k + 1, A7, c7, by omega, by go_num, by congr 1; omega, Hfin.out _ _ _ (by omega) (Own.le Hown7.out (Nat.le_trans HwZ.out.size hzz)), HwZ.out.trans (HZ.out.trans Hx7.out)⟩); (case measure => (simp [intOf]; omega)))
            · rw [if_neg hcb] at Hcut
              simp only [show evR.size = 8 from rfl] at Hcut
              (go_wp2_with (at_builtin; refine wpList_append_Own (ok := fun _ => True) (R := evR) _ rfl (.tmp 43) (.tmp 46) 22 rfl 30 i0 _ 96 Z.heap.size Tryd.underlying22 hi0 hz0 hz1 hz2 rfl (by decide) rfl Hown6.out _ (k - j) _ (d.drop j) rfl (Sl.flat_src evR_flat (Hcut.out.ext Hx6.out)) (by omega) (by decide) (by omega) ?_; intro A7 c7 w7 hown7 hg7 hat7; have Hown7 := Lib.hid hown7; have Hx7 := Lib.hid (show Ext Z w7 from Keeps.grown Hx6.out hg7 (fun g hg hl => by have := (Hown6.out.lt g hg).1; omega)); clear hown7 hg7 hat7); go_roundw; (case rel => exact ⟨k + 1, A7, c7, by omega, by go_num, by congr 1; omega, Hfin.out _ _ _ (by omega) (Own.le Hown7.out (Nat.le_trans HwZ.out.size hzz)), HwZ.out.trans (HZ.out.trans Hx7.out)⟩); (case measure => (simp [intOf]; omega)))
        · obtain ⟨z, hz⟩ : ∃ z, d[j - 1]? = some z := ⟨_, List.getElem?_eq_getElem (by have := Hdl.out; omega)⟩
          obtain ⟨bz, oz, z', rfl, hbz, _, hz', z0, z1, z2, z3, z4, z5, z6, z7⟩ := (Hsl.out.ext Hx2.out).ev (k := j - 1) (by omega)
          rw [hz] at hz'
          obtain rfl := Option.some.inj hz'
          obtain ⟨c0, c1, c2, c3, c4, c5, c6, c7⟩ := ev8_ext Hx2.out hb ⟨d0, d1, d2, d3, d4, d5, d6, d7⟩
          have hbV := hb
          have hbW := Nat.lt_of_lt_of_le hb Hx2.out.size
          have q0 : (0 : Int) ≤ (j : Int) - 1 := by omega
          have q1 : (j : Int) - 1 < (k : Int) := by omega
          have q2 : IntKind.i64.wrap ((j : Int) - 1) = (j : Int) - 1 := by rw [IntKind.wrap_i64]; omega
          have q3 : ((j : Int) - 1).toNat = j - 1 := by omega
          have hj0' : decide (0 < (j : Int)) = true := by simp; omega
          have CL := Lib.hid (fun (W : World) => ref_Less x z W)
          have Hz := Lib.hid hz
          have Hj0 := Lib.hid hj0
          clear hz hz'
          cases hlz : lessE x z
          · rw [hlz] at CL
            go_upto_region 6 with fail
            refine wp_region_ext wr (Keeps.refl _ _) (by kernel_rfl) (by kernel_rfl) ?_
            have hcell := fun (y : XW wr) => y.cell
            repeat (go_big_quiet_step (first | (go_at_call 35; with_reducible exact ext_calls (CL.out _))))
            refine wpQuiet_nil ?_
            rintro _ ⟨y, rfl⟩
            clear hcell z0 z1 z2 z3 z4 z5 z6 z7 c0 c1 c2 c3 c4 c5 c6 c7 CL
            obtain ⟨Z, hZ⟩ : ∃ Z, Z = y.w := ⟨_, rfl⟩
            have HZ := Lib.hid (show Ext V Z by rw [hZ]; exact Hx2.out.trans y.h)
            rw [← hZ]
            have Hle := Lib.hid (show ∀ z', (d.take j).getLast? = some z' → lessE x z' = false from fun z' hz9 => by
              rw [List.getLast?_eq_getElem?, List.length_take, List.getElem?_take, if_pos (by omega), show min j d.length - 1 = j - 1 by have := Hdl.out; omega, Hz.out] at hz9
              rw [← Option.some.inj hz9]; exact hlz)
            clear hZ
            have HslZ := Lib.hid (Hsl.out.ext HZ.out)
            have DZ := Lib.hid (ev8_ext HZ.out hb ⟨d0, d1, d2, d3, d4, d5, d6, d7⟩)
            have HbZ := Lib.hid (Nat.lt_of_lt_of_le hb HZ.out.size)
            have HwZ := Lib.hid Hx.out
            have hzz := HZ.out.size
            have Hfin := Lib.hid (fun (W : World) (B7 : Option Addr) (c7 : Nat) (h7 : j + 1 + (k - j) = k + 1) (h : Own evR 30 (fun _ => True) W w.heap.size (.slice B7 (j + 1 + (k - j)) c7) (j + 1 + (k - j)) (d.take j ++ [x] ++ d.drop j)) => show Own evR 30 (fun _ => True) W w.heap.size (.slice B7 (k + 1) c7) (k + 1) (sortL lessE (l.take (k + 1))) by rw [h7, Hins.out j Hgt.out Hle.out] at h; exact h)
            have Hcut := Lib.hid (HslZ.out.cut (k := j) (cap := cb) hj hcap)
            clear d0 d1 d2 d3 d4 d5 d6 d7
            obtain ⟨f0, f1, f2, f3, f4, f5, f6, f7⟩ := DZ.out
            have hbZ := HbZ.out
            go_upto_region 8 with fail
            go_cut [6] (fun s6 wc => ∃ B6 c6, s6 = .slice B6 (j + 1) c6 ∧ Own evR 30 (fun _ => True) wc Z.heap.size (.slice B6 (j + 1) c6) (j + 1) (d.take j ++ [x]) ∧ Ext Z wc)
            case first =>
              go_region_law (first | (refine step_append_Own (ok := fun _ => True) (R := evR) _ (by rfl) (.tmp 32) (.tmp 35) 22 (by rfl) 30 i0 _ 96 Z.heap.size Tryd.underlying22 hi0 hz0 hz1 hz2 rfl (by decide) (by rfl) (Own.new_nil (by first | exact blk_new _ _ | exact blk_old (blk_new _ _) _ | exact blk_new_ _ _ (by simp) | exact blk_old (blk_new_ _ _ (by simp)) _) (by first | omega | (simp; done) | (simp; omega))) _ j cb (d.take j) (by rfl) (Sl.flat_src evR_flat ((HslZ.out.to_ hj).ext (by repeat (first | with_reducible exact Keeps.refl _ _ | with_reducible refine Keeps.drew ?_ | with_reducible refine Keeps.drewN ?_ _ | with_reducible refine Keeps.alloc ?_ _)))) (by omega) (by decide) (by first | omega | (simp; done) | (simp; omega)) ?_; intro A5 c5 w5 hown5 hg5 hat5; simp only [Nat.zero_add, List.nil_append] at hown5 hg5 hat5; have hx5 : Ext Z w5 := Keeps.grown (by repeat (first | with_reducible exact Keeps.refl _ _ | with_reducible refine Keeps.drew ?_ | with_reducible refine Keeps.drewN ?_ _ | with_reducible refine Keeps.alloc ?_ _)) hg5 (fun g hg hl => by simp [Value.ownBlock] at hg; omega); obtain ⟨e0, e1, e2, e3, e4, e5, e6, e7⟩ := ev8_ext hx5 HbZ.out DZ.out; have hb5 := Nat.lt_of_lt_of_le HbZ.out hx5.size; have hz5 := hx5.size) | (refine step_append_Own (ok := fun _ => True) (R := evR) _ (by rfl) (.tmp 36) (.tmp 41) 22 (by rfl) 30 i0 _ 96 Z.heap.size Tryd.underlying22 hi0 hz0 hz1 hz2 rfl (by decide) (by rfl) (hown5.ext (by repeat (first | with_reducible exact Keeps.refl _ _ | with_reducible refine Keeps.drew ?_ | with_reducible refine Keeps.drewN ?_ _ | with_reducible refine Keeps.alloc ?_ _))) _ 1 1 [x] (by rfl) (Srcs.one_new rfl (by first | exact blk_new _ _ | exact (hg5.block _ (by first | omega | (simp; done) | (simp; omega)) (by simp [Value.ownBlock])).trans (by first | exact blk_new _ _ | exact blk_old (blk_new _ _) _ | exact blk_new_ _ _ (by simp) | exact blk_old (blk_new_ _ _ (by simp)) _)) rfl) (by omega) (by decide) (by first | omega | (simp; done) | (simp; omega)) ?_; intro A6 c6 w6 hown6 hg6 hat6; have hx6 : Ext Z w6 := Keeps.grown (by repeat (first | with_reducible exact hx5 | with_reducible exact Keeps.refl _ _ | with_reducible refine Keeps.drew ?_ | with_reducible refine Keeps.drewN ?_ _ | with_reducible refine Keeps.alloc ?_ _)) hg6 (fun g hg hl => by have := (hown5.lt g hg).1; omega)))
              all_goals
                go_wp2_with fail
                go_meet
                exact ⟨A6, c6, rfl, hown6, hx6⟩
            case rest =>
              obtain ⟨A6, c6, hv6, hown6, hx6⟩ := hcut
              obtain ⟨w6, hw6⟩ : ∃ w6, w6 = wc := ⟨_, rfl⟩
              rw [← hw6] at hown6 hx6 ⊢
              subst hv6
              have Hown6 := Lib.hid hown6
              have Hx6 := Lib.hid hx6
              have hz6 := hx6.size
              clear hown6 hx6 hw6 f0 f1 f2 f3 f4 f5 f6 f7
              by_cases hcb : cb = j
              · rw [if_pos hcb] at Hcut
                (go_wp2_with (at_builtin; refine wpList_append_Own (ok := fun _ => True) (R := evR) _ rfl (.tmp 43) (.tmp 46) 22 rfl 30 i0 _ 96 Z.heap.size Tryd.underlying22 hi0 hz0 hz1 hz2 rfl (by decide) rfl Hown6.out _ (k - j) _ (d.drop j) rfl (Sl.flat_src evR_flat (Hcut.out.ext Hx6.out)) (by omega) (by decide) (by omega) ?_; intro A7 c7 w7 hown7 hg7 hat7; have Hown7 := Lib.hid hown7; have Hx7 := Lib.hid (show Ext Z w7 from Keeps.grown Hx6.out hg7 (fun g hg hl => by have := (Hown6.out.lt g hg).1; omega)); clear hown7 hg7 hat7); go_roundw; (case rel => exact ⟨k + 1, A7, c7, by omega, by go_num, by congr 1; omega, Hfin.out _ _ _ (by omega) (Own.le Hown7.out (Nat.le_trans HwZ.out.size hzz)), HwZ.out.trans (HZ.out.trans Hx7.out)⟩); (case measure => (simp [intOf]; omega)))
              · rw [if_neg hcb] at Hcut
                simp only [Option.map_some, ad_add, show evR.size = 8 from rfl] at Hcut
                (go_wp2_with (at_builtin; refine wpList_append_Own (ok := fun _ => True) (R := evR) _ rfl (.tmp 43) (.tmp 46) 22 rfl 30 i0 _ 96 Z.heap.size Tryd.underlying22 hi0 hz0 hz1 hz2 rfl (by decide) rfl Hown6.out _ (k - j) _ (d.drop j) rfl (Sl.flat_src evR_flat (Hcut.out.ext Hx6.out)) (by omega) (by decide) (by omega) ?_; intro A7 c7 w7 hown7 hg7 hat7; have Hown7 := Lib.hid hown7; have Hx7 := Lib.hid (show Ext Z w7 from Keeps.grown Hx6.out hg7 (fun g hg hl => by have := (Hown6.out.lt g hg).1; omega)); clear hown7 hg7 hat7); go_roundw; (case rel => exact ⟨k + 1, A7, c7, by omega, by go_num, by congr 1; omega, Hfin.out _ _ _ (by omega) (Own.le Hown7.out (Nat.le_trans HwZ.out.size hzz)), HwZ.out.trans (HZ.out.trans Hx7.out)⟩); (case measure => (simp [intOf]; omega)))
          · rw [hlz] at CL
            go_upto_region 6 with fail
            refine wp_region_ext wr (Keeps.refl _ _) (by kernel_rfl) (by kernel_rfl) ?_
            have hcell := fun (y : XW wr) => y.cell
            repeat (go_big_quiet_step (first | (go_at_call 35; with_reducible exact ext_calls (CL.out _))))
            refine wpQuiet_nil ?_
            rintro _ ⟨y, rfl⟩
            clear hcell z0 z1 z2 z3 z4 z5 z6 z7 c0 c1 c2 c3 c4 c5 c6 c7 CL d0 d1 d2 d3 d4 d5 d6 d7
            go_wp2_with fail
            go_roundw
            case rel =>
              refine ⟨j - 1, by omega, by have := Hj0.out; congr 1; omega, fun y' hy' => ?_, Hx2.out.trans y.h⟩
              have hj1 : j - 1 < d.length := by have := Hdl.out; have := Hj0.out; omega
              rw [List.drop_eq_getElem_cons hj1] at hy'
              rcases List.mem_cons.1 hy' with h9 | h9
              · rw [h9]
                have := Hz.out
                rw [List.getElem?_eq_getElem hj1] at this
                rw [Option.some.inj this]; exact hlz
              · rw [show j - 1 + 1 = j by have := Hj0.out; omega] at h9
                exact Hgt.out y' h9
            case measure => have := Hj0.out; simp [intOf]; omega
    · obtain rfl : k = n := by omega
      have hev := Hown.out.evs
      rw [List.take_of_length_le (Nat.le_of_eq Hl.out)] at hev
      have Hev := Lib.hid hev
      clear hev
      go_wp2_with fail
      go_ret
      exact ⟨B, cb, rfl, hcap, Hev.out, Hx.out⟩
end Go.Proofs.YtmhkgfoimkonoaaDoor
