/-
  What is proved here: the document's Once, and Join, of events that may be are the plain functions, in new memory. Conditions: at most a hundred thousand events.
  the document's Once, and Join, of events that may be are the plain functions, in new memory. Conditions: at most a hundred thousand events.
  the document's Right, Of and Text of events. Conditions: at most a hundred thousand events, of texts of at most a million bytes.
-/
import Derived.Test.YtmhkgfoimkonoaaDoorExJ
import Derived.Test.YtmhkgfoimkonoaaDoorEvRMay
import Derived.Test.YtmhkgfoimkonoaaDoorEvParP
namespace Go.Proofs.YtmhkgfoimkonoaaDoor
open Go Go.RowKit Go.Proofs
attribute [local go_sem ↓] Go.wp_at_zero Go.wp_at_succ
/-! ### an event is stored in a row of the call's own -/
theorem flat8 : ∀ (l : List Ev) (q : Nat), (l.map evL).flatten[q]? = (l[q / 8]?).bind fun e => (evL e)[q % 8]?
  | [], q => by simp
  | a :: l, q => by
    have h8 : (evL a).length = 8 := rfl
    rw [List.map_cons, List.flatten_cons]
    by_cases hq : q < 8
    · rw [List.getElem?_append_left (by rw [h8]; exact hq), show q / 8 = 0 by omega, show q % 8 = q by omega]; rfl
    · rw [List.getElem?_append_right (by rw [h8]; omega), h8, flat8 l (q - 8), show q / 8 = (q - 8) / 8 + 1 by omega, show q % 8 = (q - 8) % 8 by omega]; rfl
theorem flat8_len (l : List Ev) : (l.map evL).flatten.length = l.length * 8 := by
  induction l with
  | nil => rfl
  | cons a l ih => rw [List.map_cons, List.flatten_cons, List.length_append, ih, List.length_cons]; show 8 + _ = _; omega
section
variable {t : TypeId} {ok : Nat → Prop} {w : World} {base : Nat} {v : Value} {n : Nat} {l : List Ev}
theorem Own.evl (h : Own evR t ok w base v n l) : w.ownsRow base t 8 v n (l.map evL).flatten := by
  obtain ⟨hl, xss, ho, hx, hr⟩ := h
  have : xss = l.map evL := by
    apply List.ext_getElem?
    intro i
    rcases Nat.lt_or_ge i n with hi | hi
    · have h1 : xss[i]? = some xss[i] := List.getElem?_eq_getElem (by omega)
      have h2 : l[i]? = some l[i] := List.getElem?_eq_getElem (by omega)
      have h3 : xss[i] = evL l[i] := hr i l[i] xss[i] h2 h1
      rw [h1, List.getElem?_map, h2, h3]; rfl
    · rw [List.getElem?_eq_none (by omega), List.getElem?_eq_none (by simp; omega)]
  rw [← this]; exact ho
theorem Own.of_evl (hl : l.length = n) (h : w.ownsRow base t 8 v n (l.map evL).flatten) : Own evR t ok w base v n l :=
  ⟨hl, l.map evL, h, by simp [hl], fun k a xs h1 h2 => by simp [h1] at h2; exact h2.symm⟩
theorem Own.set_ev {g c : Nat} (h : Own evR t ok w base (.slice (some ⟨g, 0, none⟩) n c) n l) {j : Nat} (hj : j < n) (e : Ev) : Own evR t ok (set8 w g (j * 8) e) base (.slice (some ⟨g, 0, none⟩) n c) n (l.set j e) := by
  have hl := h.1
  have ho := h.evl
  refine Own.of_evl (by simpa using hl) ⟨by rw [flat8_len]; simp [hl], ?_⟩
  rcases ho.2 with ⟨hv, _⟩ | ⟨g', cap, cur, hv, hb, hg, hnc, hcm, hcs, htk⟩
  · injection hv with hv; cases hv
  · have hv' := hv
    injection hv with h1 _ h2
    injection h1 with h1
    injection h1 with h1 _ _
    subst h1
    refine .inr ⟨g, cap, put8 cur (j * 8) e, hv', hb, set8_blk hg, hnc, hcm, by rw [put8_size]; exact hcs, ?_⟩
    apply List.ext_getElem?
    intro q
    have hold := congrArg (fun x => x[q]?) htk
    simp only [List.getElem?_take, Array.getElem?_toList, flat8] at hold ⊢
    have hsz : j * 8 + 8 ≤ cur.size := by rw [hcs]; omega
    by_cases hq : q < n * 8
    · rw [if_pos hq] at hold ⊢
      by_cases hqj : q / 8 = j
      · have e1 : q = j * 8 + q % 8 := by omega
        have h3 := put8_in (C := cur) (p := j * 8) (e := e) (j := q % 8) (by omega) hsz
        rw [← e1] at h3
        rw [h3, hqj, List.getElem?_set_self (by omega)]; rfl
      · rw [put8_out (by omega), hold, List.getElem?_set_ne (fun h => hqj h.symm)]
    · rw [if_neg hq]
      rw [List.getElem?_eq_none (by simp; omega)]; rfl
end
theorem find_none {out : List Ev} {e : Ev} (h : ∀ y ∈ out, sameE y e = false) : out.find? (fun x => sameE x e) = none := by
  rw [List.find?_eq_none]
  intro y hy; rw [h y hy]; decide
theorem find_at {out : List Ev} {e y : Ev} {j : Nat} (hj : out[j]? = some y) (h : ∀ z ∈ out.take j, sameE z e = false) (hs : sameE y e = true) : out.find? (fun x => sameE x e) = some y := by
  have hl := (List.getElem?_eq_some_iff.1 hj).1
  rw [List.find?_eq_some_iff_getElem]
  refine ⟨hs, j, hl, (List.getElem?_eq_some_iff.1 hj).2, fun i hi => ?_⟩
  have : out[i] ∈ out.take j := by
    rw [List.mem_take_iff_getElem]
    exact ⟨i, by omega, rfl⟩
  rw [h _ this]; rfl
theorem putOnce_none {out : List Ev} {e : Ev} (h : ∀ y ∈ out, sameE y e = false) : putOnce out e = out ++ [e] := by
  unfold putOnce
  rw [any_find (find_none h)]; rfl
theorem putOnce_set {out : List Ev} {e y : Ev} {j : Nat} (hi : Ids out) (hj : out[j]? = some y) (hs : sameE y e = true) (hb : betterE e y = true) : putOnce out e = out.set j e := by
  have hl := (List.getElem?_eq_some_iff.1 hj).1
  have hy := (List.getElem?_eq_some_iff.1 hj).2
  unfold putOnce
  rw [List.any_eq_true.2 ⟨y, List.mem_of_getElem? hj, hs⟩, if_pos rfl]
  apply List.ext_getElem?
  intro i
  rw [List.getElem?_map, List.getElem?_set]
  by_cases hij : j = i
  · subst hij
    rw [hj, if_pos rfl, if_pos hl]
    simp [hs, hb]
  · rw [if_neg hij]
    cases hx : out[i]? with
    | none => rfl
    | some x =>
      have hxe : sameE x e = false := by
        cases h9 : sameE x e
        · rfl
        · have hil := (List.getElem?_eq_some_iff.1 hx).1
          have hxi := (List.getElem?_eq_some_iff.1 hx).2
          have hxy : sameE x y = true := sameE_trans h9 (by rw [sameE_comm]; exact hs)
          have hpw := List.pairwise_iff_getElem.1 hi
          rcases Nat.lt_or_gt_of_ne hij with h | h
          · have := hpw j i hl hil h
            rw [hy, hxi, sameE_comm, hxy] at this; cases this
          · have := hpw i j hil hl h
            rw [hy, hxi, hxy] at this; cases this
      simp [hxe]
end Go.Proofs.YtmhkgfoimkonoaaDoor
namespace Go.Proofs.YtmhkgfoimkonoaaDoor
open Go Go.RowKit Go.Proofs
attribute [local go_sem ↓] Go.wp_at_zero Go.wp_at_succ
set_option maxRecDepth 100000 in
set_option maxHeartbeats 8000000 in
theorem rf_Once (A : Option Addr) (n c : Nat) (l : List Ev) (ok : Nat → Prop) (w : World) (hs : Sl evR ok w A n l) (hn : n ≤ 100000) (hmay : ∀ e ∈ l, mayE e = true) :
    Calls Tryd.prog 44 #[.slice A n c] w fun r w' => ∃ B m cb, r = .returned (.slice B m cb) ∧ m ≤ n ∧ Own evR 30 (fun _ => True) w' w.heap.size (.slice B m cb) m (onceL l) ∧ Ext w w' := by
  have Hs := Lib.hid hs
  have Hl := Lib.hid hs.1
  have Hmay := Lib.hid hmay
  obtain ⟨i0, hi0, hz0, hz1, hz2⟩ := info_part3 info_apiEv
  have Hok := Lib.hid (fun k => once_ok (l := l.take k) (fun e he => hmay e (List.mem_of_mem_take he)))
  clear hs hmay
  go_enter Tryd.func44, Tryd.ntmps44
  go_wp2_with fail
  go_loopw [3, 4] (fun v i wr => ∃ (k q : Nat) (B : Option Addr) (cb : Nat), k ≤ n ∧ q ≤ k ∧ i = .int .i64 k ∧ v = .slice B q cb ∧ Own evR 30 (fun _ => True) wr w.heap.size (.slice B q cb) q (onceL (l.take k)) ∧ Ext w wr) (fun _ i _ => n - (intOf i).toNat)
  case atStart => exact ⟨0, 0, _, 0, Nat.zero_le _, Nat.le_refl _, rfl, rfl, Own.new_nil (blk_new _ _) (Nat.le_refl _), (Keeps.refl _ _).alloc _⟩
  case round =>
    obtain ⟨k, q, B, cb, hk, hqk, rfl, rfl, hown, hx⟩ := hrel
    have Hown := Lib.hid hown
    have Hx := Lib.hid hx
    have hsz := hx.size
    have Hdl := Lib.hid hown.1
    clear hown hx
    by_cases hlt : k < n
    · obtain ⟨b, o, e, rfl, hb, _, he, d0, d1, d2, d3, d4, d5, d6, d7⟩ := (Hs.out.ext Hx.out).ev hlt
      have i0' : (0 : Int) ≤ (k : Int) := by omega
      have i1' : (k : Int) < (n : Int) := by omega
      have Hme := Lib.hid (Hmay.out e (List.mem_of_getElem? he))
      have Hsn := Lib.hid (once_snoc he)
      have hid := (Hok.out k).ids
      obtain ⟨out, hout⟩ : ∃ out, out = onceL (l.take k) := ⟨_, rfl⟩
      have Hom := Lib.hid (show ∀ y ∈ out, mayE y = true from fun y hy => by rw [hout] at hy; exact Hmay.out y (List.mem_of_mem_take ((Hok.out k).sound y hy).1))
      rw [← hout] at Hown Hdl Hsn hid
      have Hid := Lib.hid hid
      obtain ⟨V, hV⟩ : ∃ V, V = wr := ⟨_, rfl⟩
      rw [← hV] at Hown Hx hsz hb d0 d1 d2 d3 d4 d5 d6 d7 ⊢
      have HD := Lib.hid (show Ev8 V b (o + k * 8) e from ⟨d0, d1, d2, d3, d4, d5, d6, d7⟩)
      clear he hid hout hV
      clear d0 d1 d2 d3 d4 d5 d6 d7
      go_wp2_with fail
      go_loopw [5] (fun i wr => ∃ j : Nat, j ≤ q ∧ i = .int .i64 j ∧ (∀ y ∈ out.take j, sameE y e = false) ∧ Ext V wr) (fun i _ => q - (intOf i).toNat)
      case atStart => exact ⟨0, Nat.zero_le _, rfl, fun _ h => (by simp at h), Keeps.refl _ _⟩
      case round =>
        obtain ⟨j, hj, rfl, hno, hx2⟩ := hrel
        have Hno := Lib.hid hno
        have Hx2 := Lib.hid hx2
        clear hno hx2
        have j0 : (0 : Int) ≤ (j : Int) := by omega
        obtain ⟨c0, c1, c2, c3, c4, c5, c6, c7⟩ := ev8_ext Hx2.out hb HD.out
        have hbW := Nat.lt_of_lt_of_le hb Hx2.out.size
        by_cases hjq : j < q
        · have j1 : (j : Int) < (q : Int) := by omega
          have hjd : decide ((j : Int) < (q : Int)) = true := by simpa using hjq
          obtain ⟨g, S, rfl, hbg, hr⟩ : ∃ g S, B = some ⟨g, 0, none⟩ ∧ w.heap.size ≤ g ∧ Row V g 0 S out := by
            rcases Hown.out.evs.2 with ⟨h0, _⟩ | ⟨g, S, h1, h2, h3⟩
            · omega
            · exact ⟨g, S, h1, h2, h3⟩
          obtain ⟨y, hy⟩ : ∃ y, out[j]? = some y := ⟨_, List.getElem?_eq_getElem (by have := Hdl.out; omega)⟩
          have HY := Lib.hid hy
          have Hr := Lib.hid hr
          obtain ⟨z0, z1, z2, z3, z4, z5, z6, z7⟩ := (hr.ext Hx2.out).cells hy
          have hgW := (hr.ext Hx2.out).lt
          simp only [Nat.zero_add] at z0 z1 z2 z3 z4 z5 z6 z7
          clear hy hr
          have hsb : (y.src == e.src) = (y.src.toList == e.src.toList) := beq_toListBytes _ _
          cases hsr : (y.src == e.src)
          · rw [hsr] at hsb
            have s1 : (y.src.toList == e.src.toList) = false := hsb.symm
            have Hsame := Lib.hid (show sameE y e = false by unfold sameE; rw [hsr]; rfl)
            clear hsb hsr
            go_upto_region 6 with fail
            refine wp_region_ext wr (Keeps.refl _ _) (by kernel_rfl) (by kernel_rfl) ?_
            have hcell := fun (y : XW wr) => y.cell
            repeat (go_big_quiet_step (fail))
            refine wpQuiet_nil ?_
            rintro _ ⟨y0, rfl⟩
            clear hcell
            clear z0 z1 z2 z3 z4 z5 z6 z7 c0 c1 c2 c3 c4 c5 c6 c7
            go_wp2_with fail
            go_roundw
            case rel =>
              refine ⟨j + 1, by omega, by go_num, fun x hx => ?_, Hx2.out.trans y0.h⟩
              rw [List.take_add_one, HY.out] at hx
              rcases List.mem_append.1 hx with hx | hx
              · exact Hno.out x hx
              · simp at hx; rw [hx]; exact Hsame.out
            case measure => simp [intOf]; omega
          · rw [hsr] at hsb
            have s1 : (y.src.toList == e.src.toList) = true := hsb.symm
            by_cases hnr : y.num = e.num
            · have s2 : (y.num == e.num) = true := by simpa using hnr
              have s3 : (y.num != e.num) = false := by simpa using hnr
              have Hsame := Lib.hid (show sameE y e = true by unfold sameE; rw [hsr, hnr]; simp)
              have hjne : ((j : Int) == (q : Int)) = false := by simp; omega
              have Hbt := Lib.hid (fun (W : World) => rf_better e y W Hme.out (Hom.out y (List.mem_of_getElem? HY.out)))
              clear hsb hsr hnr
              go_upto_region 6 with fail
              refine wp_region_ext wr (Keeps.refl _ _) (by kernel_rfl) (by kernel_rfl) ?_
              have hcell := fun (y : XW wr) => y.cell
              repeat (go_big_quiet_step (fail))
              refine wpQuiet_nil ?_
              rintro _ ⟨y0, rfl⟩
              clear hcell
              clear z0 z1 z2 z3 z4 z5 z6 z7 c0 c1 c2 c3 c4 c5 c6 c7
              obtain ⟨Z, hZ⟩ : ∃ Z, Z = y0.w := ⟨_, rfl⟩
              have HZ := Lib.hid (show Ext V Z by rw [hZ]; exact Hx2.out.trans y0.h)
              rw [← hZ]
              clear hZ
              have HownZ := Lib.hid (Hown.out.ext HZ.out)
              have HwZ := Lib.hid (Hx.out.trans HZ.out)
              have hzz := HwZ.out.size
              obtain ⟨c0, c1, c2, c3, c4, c5, c6, c7⟩ := ev8_ext HZ.out hb HD.out
              obtain ⟨z0, z1, z2, z3, z4, z5, z6, z7⟩ := (Hr.out.ext HZ.out).cells HY.out
              have hgZ := (Hr.out.ext HZ.out).lt
              have hbZ := Nat.lt_of_lt_of_le hb HZ.out.size
              simp only [Nat.zero_add] at z0 z1 z2 z3 z4 z5 z6 z7
              cases hbt : betterE e y
              · rw [hbt] at Hbt
                go_upto_region 10 with fail
                refine wp_region_ext Z (Keeps.refl _ _) (by kernel_rfl) (by kernel_rfl) ?_
                have hcell := fun (y : XW Z) => y.cell
                repeat (go_big_quiet_step (first | (go_at_call 68; with_reducible exact ext_calls (Hbt.out _))))
                refine wpQuiet_nil ?_
                rintro _ ⟨y1, rfl⟩
                clear hcell z0 z1 z2 z3 z4 z5 z6 z7 c0 c1 c2 c3 c4 c5 c6 c7 Hbt
                have HE := Lib.hid (show Own evR 30 (fun _ => True) y1.w w.heap.size (.slice (some ⟨g, 0, none⟩) q cb) q (onceL (l.take (k + 1))) by
                  rw [Hsn.out, putOnce_worse Hid.out (find_at HY.out Hno.out Hsame.out) hbt]; exact HownZ.out.ext y1.h)
                have HxE := Lib.hid (HwZ.out.trans y1.h)
                clear hbt
                go_wp2_with fail
                go_roundw
                case rel => exact ⟨k + 1, q, _, cb, by omega, by omega, by go_num, rfl, HE.out, HxE.out⟩
                case measure => simp [intOf]; omega
              · rw [hbt] at Hbt
                go_upto_region 10 with fail
                refine wp_region_ext Z (Keeps.refl _ _) (by kernel_rfl) (by kernel_rfl) ?_
                have hcell := fun (y : XW Z) => y.cell
                repeat (go_big_quiet_step (first | (go_at_call 68; with_reducible exact ext_calls (Hbt.out _))))
                refine wpQuiet_nil ?_
                rintro _ ⟨y1, rfl⟩
                clear hcell z0 z1 z2 z3 z4 z5 z6 z7 c0 c1 c2 c3 c4 c5 c6 c7 Hbt
                obtain ⟨X, hX⟩ : ∃ X, X = y1.w := ⟨_, rfl⟩
                have HX := Lib.hid (show Ext Z X by rw [hX]; exact y1.h)
                rw [← hX]
                clear hX
                obtain ⟨c0, c1, c2, c3, c4, c5, c6, c7⟩ := ev8_ext (HZ.out.trans HX.out) hb HD.out
                have hrX := Hr.out.ext (HZ.out.trans HX.out)
                obtain ⟨z0, z1, z2, z3, z4, z5, z6, z7⟩ := hrX.cells HY.out
                simp only [Nat.zero_add] at z0 z1 z2 z3 z4 z5 z6 z7
                have hfree := hrX.free
                have hgb : b ≠ g ∨ b = g := by omega
                have HE := Lib.hid (show Own evR 30 (fun _ => True) (set8 X g (j * 8) e) w.heap.size (.slice (some ⟨g, 0, none⟩) q cb) q (onceL (l.take (k + 1))) by
                  rw [Hsn.out, putOnce_set Hid.out HY.out Hsame.out hbt]; exact (HownZ.out.ext HX.out).set_ev hjq e)
                have HxE := Lib.hid (show Ext w (set8 X g (j * 8) e) from Keeps.then_ (HwZ.out.trans HX.out) set8_keeps (fun i hi _ e => by omega))
                clear hbt hrX hgb
                go_wp2_with fail
                have HE' := HE.out
                have HxE' := HxE.out
                unfold set8 at HE' HxE'
                go_roundw
                case rel => exact ⟨k + 1, q, _, cb, by omega, by omega, by go_num, rfl, HE', HxE'⟩
                case measure => simp [intOf]; omega
            · have s2 : (y.num == e.num) = false := by simpa using hnr
              have s3 : (y.num != e.num) = true := by simpa using hnr
              have Hsame := Lib.hid (show sameE y e = false by unfold sameE; rw [hsr]; simpa using hnr)
              clear hsb hsr hnr
              go_upto_region 6 with fail
              refine wp_region_ext wr (Keeps.refl _ _) (by kernel_rfl) (by kernel_rfl) ?_
              have hcell := fun (y : XW wr) => y.cell
              repeat (go_big_quiet_step (fail))
              refine wpQuiet_nil ?_
              rintro _ ⟨y0, rfl⟩
              clear hcell
              clear z0 z1 z2 z3 z4 z5 z6 z7 c0 c1 c2 c3 c4 c5 c6 c7
              go_wp2_with fail
              go_roundw
              case rel =>
                refine ⟨j + 1, by omega, by go_num, fun x hx => ?_, Hx2.out.trans y0.h⟩
                rw [List.take_add_one, HY.out] at hx
                rcases List.mem_append.1 hx with hx | hx
                · exact Hno.out x hx
                · simp at hx; rw [hx]; exact Hsame.out
              case measure => simp [intOf]; omega
        · obtain rfl : j = q := by omega
          have hjd : decide ((j : Int) < (j : Int)) = false := by simp
          have hjne : ((j : Int) == (j : Int)) = true := by simp
          go_upto_region 6 with fail
          refine wp_region_ext wr (Keeps.refl _ _) (by kernel_rfl) (by kernel_rfl) ?_
          have hcell := fun (y : XW wr) => y.cell
          repeat (go_big_quiet_step (fail))
          refine wpQuiet_nil ?_
          rintro _ ⟨y0, rfl⟩
          clear hcell
          clear c0 c1 c2 c3 c4 c5 c6 c7
          obtain ⟨Z, hZ⟩ : ∃ Z, Z = y0.w := ⟨_, rfl⟩
          have HZ := Lib.hid (show Ext V Z by rw [hZ]; exact Hx2.out.trans y0.h)
          rw [← hZ]
          clear hZ
          have HownZ := Lib.hid (Hown.out.ext HZ.out)
          have HwZ := Lib.hid (Hx.out.trans HZ.out)
          have hzz := HwZ.out.size
          obtain ⟨c0, c1, c2, c3, c4, c5, c6, c7⟩ := ev8_ext HZ.out hb HD.out
          have hbZ := Nat.lt_of_lt_of_le hb HZ.out.size
          have Hpn := Lib.hid (show onceL (l.take (k + 1)) = out ++ [e] by
            rw [Hsn.out]
            refine putOnce_none ?_
            have := Hno.out
            rwa [List.take_of_length_le (Nat.le_of_eq Hdl.out)] at this)
          go_wp2_with (at_builtin; refine wpList_append_Own (ok := fun _ => True) (R := evR) _ rfl (.tmp 49) (.tmp 54) 22 rfl 30 i0 _ 96 w.heap.size Tryd.underlying22 hi0 hz0 hz1 hz2 rfl (by decide) rfl (HownZ.out.alloc _) _ 1 1 [e] rfl (Srcs.one_new rfl (blk_new _ _) rfl) (by omega) (by decide) (by simp; omega) ?_; intro A8 c8 w8 hown8 hg8 hat8; have Hown8 := Lib.hid hown8; have Hx8 := Lib.hid (show Ext w w8 from Keeps.grown (HwZ.out.alloc _) hg8 (fun g hg hl => by have := (HownZ.out.lt g hg).1; omega)); clear hown8 hg8 hat8)
          go_roundw
          case rel => exact ⟨k + 1, j + 1, A8, c8, by omega, by omega, by go_num, rfl, by rw [Hpn.out]; exact Hown8.out, Hx8.out⟩
          case measure => simp [intOf]; omega
    · obtain rfl : k = n := by omega
      have hown9 := Hown.out
      rw [List.take_of_length_le (Nat.le_of_eq Hl.out)] at hown9
      have HE := Lib.hid hown9
      clear hown9
      go_wp2_with fail
      go_ret
      exact ⟨B, q, cb, rfl, hqk, HE.out, Hx.out⟩
set_option maxRecDepth 100000 in
set_option maxHeartbeats 4000000 in
theorem rf_Join (A : Option Addr) (n c : Nat) (l : List Ev) (ok : Nat → Prop) (w : World) (hs : Sl evR ok w A n l) (hn : n ≤ 100000) (hmay : ∀ e ∈ l, mayE e = true) :
    Calls Tryd.prog 19 #[.slice A n c] w fun r w' => ∃ B m cb, r = .returned (.slice B m cb) ∧ m ≤ n ∧ m ≤ cb ∧ EvsAt w.heap.size w' B m (joinE l) ∧ Ext w w' := by
  have C1 := Lib.hid (rf_Once A n c l ok w hs hn hmay)
  clear hs hmay
  go_enter Tryd.func19, Tryd.ntmps19
  go_wp2_with fail
  refine C1.out.mono ?_
  rintro _ w1 ⟨B, m, cb, rfl, hmn, hown, hx⟩
  have C2 := Lib.hid (ref_Sort B m cb _ _ w1 hown.evSl (by omega))
  have Hx := Lib.hid hx
  clear hown hx
  go_wp2_with fail
  refine C2.out.mono ?_
  rintro _ w2 ⟨D, cd, rfl, hcd, hev, hx2⟩
  have Hev := Lib.hid (hev.le Hx.out.size)
  have Hx2 := Lib.hid (Hx.out.trans hx2)
  clear hev hx2
  go_wp2_with fail
  go_ret
  exact ⟨D, m, cd, rfl, hmn, hcd, Hev.out, Hx2.out⟩
end Go.Proofs.YtmhkgfoimkonoaaDoor
namespace Go.Proofs.YtmhkgfoimkonoaaDoor
open Go Go.RowKit Go.Proofs
attribute [local go_sem ↓] Go.wp_at_zero Go.wp_at_succ

theorem filter_snoc {l : List Ev} {k : Nat} {e : Ev} {p : Ev → Bool} (h : l[k]? = some e) : (l.take (k + 1)).filter p = (l.take k).filter p ++ (if p e then [e] else []) := by
  rw [List.take_add_one, h, List.filter_append]
  simp only [Option.toList_some, List.filter_cons, List.filter_nil]
def textL (l : List Ev) : List UInt8 := (l.map fun e => (fmtE e).data.toList ++ [10]).flatten
def textB (l : List Ev) : ByteArray := bts (textL l)
theorem textL_snoc {l : List Ev} {k : Nat} {e : Ev} (h : l[k]? = some e) : textL (l.take (k + 1)) = textL (l.take k) ++ ((fmtE e).data.toList ++ [10]) := by
  unfold textL; rw [List.take_add_one, h]; simp
theorem textB_snoc {l : List Ev} {k : Nat} {e : Ev} (h : l[k]? = some e) : textB (l.take (k + 1)) = textB (l.take k) ++ fmtE e ++ ⟨#[10]⟩ := by
  apply toList_inj
  unfold textB
  rw [bts_data, textL_snoc h]
  simp [bts]
theorem size_list (s : ByteArray) : s.data.toList.length = s.size := by simp
theorem textL_len {l : List Ev} (h : ∀ e ∈ l, (fmtE e).size ≤ 999999) : (textL l).length ≤ l.length * 1000000 := by
  unfold textL
  induction l with
  | nil => simp
  | cons a l ih =>
    have h1 := h a (by simp)
    have h2 := ih (fun e he => h e (by simp [he]))
    have h3 := size_list (fmtE a)
    simp only [List.map_cons, List.flatten_cons, List.length_append, List.length_cons, List.length_nil]
    omega
theorem may_fmt_size {e : Ev} (h : mayE e = true) : (fmtE e).size ≤ 999999 := fmtE_size h
set_option maxRecDepth 100000 in
set_option maxHeartbeats 4000000 in
theorem rf_Right (A : Option Addr) (n c : Nat) (l : List Ev) (ok : Nat → Prop) (w : World) (hs : Sl evR ok w A n l) (hn : n ≤ 100000) (hsm : ∀ e ∈ l, EvSm e) :
    Calls Tryd.prog 20 #[.slice A n c] w fun r w' => ∃ B m cb, r = .returned (.slice B m cb) ∧ m ≤ n ∧ Own evR 30 (fun _ => True) w' w.heap.size (.slice B m cb) m (l.filter mayE) ∧ Ext w w' := by
  have Hs := Lib.hid hs
  have Hl := Lib.hid hs.1
  have Hsm := Lib.hid hsm
  obtain ⟨i0, hi0, hz0, hz1, hz2⟩ := info_part3 info_apiEv
  clear hs hsm
  go_enter Tryd.func20, Tryd.ntmps20
  go_wp2_with fail
  go_loopw [3, 4] (fun v i wr => ∃ (k q : Nat) (B : Option Addr) (cb : Nat), k ≤ n ∧ q ≤ k ∧ i = .int .i64 k ∧ v = .slice B q cb ∧ Own evR 30 (fun _ => True) wr w.heap.size (.slice B q cb) q ((l.take k).filter mayE) ∧ Ext w wr) (fun _ i _ => n - (intOf i).toNat)
  case atStart => exact ⟨0, 0, _, 0, Nat.zero_le _, Nat.le_refl _, rfl, rfl, Own.new_nil (blk_new _ _) (Nat.le_refl _), (Keeps.refl _ _).alloc _⟩
  case round =>
    obtain ⟨k, q, B, cb, hk, hqk, rfl, rfl, hown, hx⟩ := hrel
    have Hown := Lib.hid hown
    have Hx := Lib.hid hx
    have hsz := hx.size
    clear hown hx
    by_cases hlt : k < n
    · obtain ⟨b, o, e, rfl, hb, _, he, d0, d1, d2, d3, d4, d5, d6, d7⟩ := (Hs.out.ext Hx.out).ev hlt
      have j0 : (0 : Int) ≤ (k : Int) := by omega
      have j1 : (k : Int) < (n : Int) := by omega
      have Hf := Lib.hid (filter_snoc (p := mayE) he)
      have Hm := Lib.hid (fun (W : World) => ref_May e W (Hsm.out e (List.mem_of_getElem? he)))
      have HD := Lib.hid (show Ev8 wr b (o + k * 8) e from ⟨d0, d1, d2, d3, d4, d5, d6, d7⟩)
      clear he
      go_wp2_with fail
      refine (Hm.out wr).mono ?_
      rintro _ w2 ⟨rfl, hx2⟩
      have Hxx := Lib.hid hx2
      clear d0 d1 d2 d3 d4 d5 d6 d7
      obtain ⟨d0, d1, d2, d3, d4, d5, d6, d7⟩ := ev8_ext hx2 hb HD.out
      have hb2 := Nat.lt_of_lt_of_le hb hx2.size
      clear hx2
      cases hm : mayE e
      · have Hst := Lib.hid (show (l.take (k + 1)).filter mayE = (l.take k).filter mayE by rw [Hf.out, hm]; simp)
        go_wp2_with fail
        go_roundw
        case rel => exact ⟨k + 1, q, B, cb, by omega, by omega, by go_num, rfl, by rw [Hst.out]; exact Hown.out.ext Hxx.out, Hx.out.trans Hxx.out⟩
        case measure => simp [intOf]; omega
      · have Hst := Lib.hid (show (l.take (k + 1)).filter mayE = (l.take k).filter mayE ++ [e] by rw [Hf.out, hm]; rfl)
        go_wp2_with (at_builtin; refine wpList_append_Own (ok := fun _ => True) (R := evR) _ rfl (.tmp 17) (.tmp 22) 22 rfl 30 i0 _ 96 w.heap.size Tryd.underlying22 hi0 hz0 hz1 hz2 rfl (by decide) rfl (Hown.out.ext (by repeat (first | with_reducible exact Hxx.out | with_reducible exact Keeps.refl _ _ | with_reducible refine Keeps.drew ?_ | with_reducible refine Keeps.drewN ?_ _ | with_reducible refine Keeps.alloc ?_ _))) _ 1 1 [e] rfl (Srcs.one_new rfl (by first | exact blk_new _ _ | exact blk_new_ _ _ (by simp)) rfl) (by omega) (by decide) (by have := Hxx.out.size; first | omega | (simp; omega)) ?_; intro A8 c8 w8 hown8 hg8 hat8; have Hown8 := Lib.hid hown8; have Hx8 := Lib.hid (show Ext w w8 from Keeps.grown (by repeat (first | with_reducible exact Hx.out.trans Hxx.out | with_reducible exact Keeps.refl _ _ | with_reducible refine Keeps.drew ?_ | with_reducible refine Keeps.drewN ?_ _ | with_reducible refine Keeps.alloc ?_ _)) hg8 (fun g hg hl => by have := (Hown.out.lt g hg).1; omega)); clear hown8 hg8 hat8)
        go_roundw
        case rel => exact ⟨k + 1, q + 1, A8, c8, by omega, by omega, by go_num, rfl, by rw [Hst.out]; exact Hown8.out, Hx8.out⟩
        case measure => simp [intOf]; omega
    · obtain rfl : k = n := by omega
      have hown9 := Hown.out
      rw [List.take_of_length_le (Nat.le_of_eq Hl.out)] at hown9
      have HE := Lib.hid hown9
      clear hown9
      go_wp2_with fail
      go_ret
      exact ⟨B, q, cb, rfl, hqk, HE.out, Hx.out⟩
set_option maxRecDepth 100000 in
set_option maxHeartbeats 4000000 in
theorem rf_Text (A : Option Addr) (n c : Nat) (l : List Ev) (ok : Nat → Prop) (w : World) (hs : Sl evR ok w A n l) (hn : n ≤ 100000) (hsm : ∀ e ∈ l, EvSm e) :
    Calls Tryd.prog 22 #[.slice A n c] w fun r w' => r = .returned (.string (textB (allE l))) ∧ Ext w w' := by
  have C1 := Lib.hid (rf_Right A n c l ok w hs hn hsm)
  clear hs hsm
  go_enter Tryd.func22, Tryd.ntmps22
  go_wp2_with fail
  refine C1.out.mono ?_
  rintro _ w1 ⟨B, m, cb, rfl, hmn, hown, hx⟩
  have C2 := Lib.hid (rf_Join B m cb _ _ w1 hown.evSl (by omega) (filter_may l))
  have Hx := Lib.hid hx
  clear hown hx
  go_wp2_with fail
  refine C2.out.mono ?_
  rintro _ w2 ⟨D, d, cd, rfl, hdm, hcd, hev, hx2⟩
  have Hs2 := Lib.hid hev.sl
  have Hl2 := Lib.hid hev.1
  have Hx2 := Lib.hid (Hx.out.trans hx2)
  obtain ⟨L, hL⟩ : ∃ L, L = joinE (l.filter mayE) := ⟨_, rfl⟩
  have HL := Lib.hid (show allE l = L from hL.symm)
  have Hmay := Lib.hid (show ∀ e ∈ L, mayE e = true by rw [hL]; exact join_may (filter_may l))
  rw [← hL] at Hs2 Hl2
  clear hev hx2 hL C1 C2 Hx
  go_wp2_with fail
  go_loopw [4, 5] (fun v i wr => ∃ k : Nat, k ≤ d ∧ i = .int .i64 k ∧ v = .string (textB (L.take k)) ∧ Ext w2 wr) (fun _ i _ => d - (intOf i).toNat)
  case atStart => exact ⟨0, Nat.zero_le _, rfl, rfl, Keeps.refl _ _⟩
  case round =>
    obtain ⟨k, hk, rfl, rfl, hx⟩ := hrel
    have Hx := Lib.hid hx
    clear hx
    by_cases hlt : k < d
    · obtain ⟨b, o, e, rfl, hb, _, he, d0, d1, d2, d3, d4, d5, d6, d7⟩ := (Hs2.out.ext Hx.out).ev hlt
      have j0 : (0 : Int) ≤ (k : Int) := by omega
      have j1 : (k : Int) < (d : Int) := by omega
      have hme := Hmay.out e (List.mem_of_getElem? he)
      have Hst := Lib.hid (textB_snoc he)
      have h1 : (fmtE e).size ≤ 999999 := may_fmt_size hme
      have h2 : (textB (L.take k)).size ≤ 100000000000 := by
        have := textL_len (l := L.take k) (fun e he => may_fmt_size (Hmay.out e (List.mem_of_mem_take he)))
        unfold textB
        rw [bts_size]
        rw [List.length_take] at this
        omega
      have Cf := Lib.hid (fun (W : World) => ref_Format e W hme)
      obtain ⟨F, hF⟩ : ∃ F, F = fmtE e := ⟨_, rfl⟩
      obtain ⟨T, hT⟩ : ∃ T, T = textB (L.take k) := ⟨_, rfl⟩
      rw [← hF] at Cf Hst h1
      rw [← hT] at Hst h2 ⊢
      have q1 : ¬ 9223372036854775807 < T.size + F.size := by omega
      have q2 : ¬ 9223372036854775807 < (T ++ F).size + 1 := by rw [ByteArray.size_append]; omega
      clear he hme hF hT
      go_wp2_with fail
      refine (Cf.out _).mono ?_
      rintro _ w3 ⟨rfl, hx3⟩
      have Hx3 := Lib.hid (Hx.out.trans hx3)
      clear hx3
      go_wp2_with fail
      go_roundw
      case rel => exact ⟨k + 1, by omega, by go_num, by rw [Hst.out], Hx3.out⟩
      case measure => simp [intOf]; omega
    · obtain rfl : k = d := by omega
      have Hend := Lib.hid (show textB (L.take k) = textB (allE l) by rw [HL.out, List.take_of_length_le (Nat.le_of_eq Hl2.out)])
      go_wp2_with fail
      go_ret
      exact ⟨by rw [← Hend.out]; rfl, Hx2.out.trans Hx.out⟩
end Go.Proofs.YtmhkgfoimkonoaaDoor
