/-
  What is proved here: the document's Expose. Conditions: at most a thousand trials and exposures, short texts.
-/
import Derived.Test.YtdkgphambjnbiaaDoorTrXw
namespace Go.Proofs.YtdkgphambjnbiaaDoor
open Go Go.RowKit Go.Proofs
attribute [local go_sem ↓] Go.wp_at_zero Go.wp_at_succ
theorem blk_new_ (w : World) (o : Obj) {g : Nat} (h : w.heap.size = g) : (w.alloc o).heap[g]? = some o := h ▸ blk_new w o
theorem Own.new_nil {α : Type} {R : Rep α} {t : TypeId} {ok : Nat → Prop} {w : World} {g base : Nat} (hg : w.heap[g]? = some (.cells #[] t)) (hb : base ≤ g) : Own R t ok w base (.slice (some ⟨g, 0, none⟩) 0 0) 0 [] :=
  ⟨rfl, [], ⟨by simp, .inr ⟨g, 0, #[], rfl, hb, hg, Nat.le_refl _, by unfold maxLen; omega, by simp, by simp⟩⟩, rfl, fun _ _ _ h => (by simp at h)⟩
theorem Own.le {α : Type} {R : Rep α} {t : TypeId} {ok : Nat → Prop} {w : World} {base base' : Nat} {v : Value} {n : Nat} {l : List α} (h : Own R t ok w base v n l) (hb : base' ≤ base) : Own R t ok w base' v n l := by
  obtain ⟨hl, xss, ho, hx, hr⟩ := h
  refine ⟨hl, xss, ⟨ho.1, ?_⟩, hx, hr⟩
  rcases ho.2 with hn | ⟨g, cap, cur, hv, hbg, r⟩
  · exact .inl hn
  · exact .inr ⟨g, cap, cur, hv, Nat.le_trans hb hbg, r⟩
theorem info_xp : (Tryd.prog.info? 43).map (fun i => (i.zero, i.size, i.bytes)) = some (some (.agg #[.string ⟨#[]⟩, .string ⟨#[]⟩, .int .i64 0]), 3, 40) := by kernel_rfl
theorem info_part3 {t : TypeId} {z : Option Value} {a b : Nat} (h : (Tryd.prog.info? t).map (fun i => (i.zero, i.size, i.bytes)) = some (z, a, b)) : ∃ i, Tryd.prog.info? t = some i ∧ i.zero = z ∧ i.size = a ∧ i.bytes = b := by
  cases hi : Tryd.prog.info? t with
  | none => rw [hi] at h; simp at h
  | some i => rw [hi] at h; simp at h; exact ⟨i, rfl, h.1, h.2.1, h.2.2⟩
/-- Whether the document exposes. -/
def okX (l : List Tr) (e : Xp) : Bool := match l.findIdx? (fun o => o.name == e.trial) with | none => false | some i => match l[i]? with | none => false | some t => expT t e.person e.tick
def RExp (w : World) (Ax : Option Addr) (nx cx : Nat) (l : List Tr) (had : List Xp) (e : Xp) (r : Ending) (w' : World) : Prop :=
  Ext w w' ∧ if okX l e then ∃ A6 c6, r = .returned (.tuple #[.slice A6 (nx + 1) c6, .bool true]) ∧ Own xpR 43 (fun _ => True) w' w.heap.size (.slice A6 (nx + 1) c6) (nx + 1) (had ++ [e]) else r = .returned (.tuple #[.slice Ax nx cx, .bool false])
set_option maxRecDepth 100000 in
set_option maxHeartbeats 4000000 in
theorem rf_Expose (A : Option Addr) (n c : Nat) (l : List Tr) (Ax : Option Addr) (nx cx : Nat) (had : List Xp) (e : Xp) (ok ok2 : Nat → Prop) (w : World) (hs : Sl trR ok w A n l) (hn : n ≤ 1000) (hwf : ∀ t ∈ l, TrWf t) (hsx : Sl xpR ok2 w Ax nx had) (hnx : nx ≤ 1000) (hp : e.person.size < maxLen) :
    Calls Tryd.prog 23 #[.slice A n c, .slice Ax nx cx, .agg #[.string e.trial, .string e.person, .int .i64 e.tick]] w (RExp w Ax nx cx l had e) := by
  obtain ⟨i0, hi0, hz0, hz1, hz2⟩ := info_part3 info_xp
  have Hs := Lib.hid hs
  have Hsx := Lib.hid hsx
  have Hwf := Lib.hid hwf
  have hp1 : e.person.size ≤ maxLen := Nat.le_of_lt hp
  have Hl := Lib.hid hs.1
  clear hs hsx hwf
  obtain ⟨W0, hW0⟩ : ∃ W0, W0 = w.alloc (.cells #[.string e.trial, .string e.person, .int .i64 e.tick] 43) := ⟨_, rfl⟩
  have HX := Lib.hid (show Ext w W0 by rw [hW0]; exact (Keeps.refl _ _).alloc _)
  have HgX := Lib.hid (show W0.heap[w.heap.size]? = some (.cells #[.string e.trial, .string e.person, .int .i64 e.tick] 43) by rw [hW0]; exact blk_new _ _)
  have d0 := blk_cell HgX.out 0 rfl
  have d1 := blk_cell HgX.out 1 rfl
  have d2 := blk_cell HgX.out 2 rfl
  have hsl0 := HX.out.size
  have hg0 := (Array.getElem?_eq_some_iff.1 HgX.out).1
  cases hf : l.findIdx? (fun o => o.name == e.trial) with
  | none =>
    have Hno := Lib.hid (show okX l e = false by unfold okX; rw [hf])
    have Hix := Lib.hid (idxT_no hf)
    clear hf
    go_enter Tryd.func23, Tryd.ntmps23
    go_upto_region 1 with fail
    try rw [← hW0]
    clear hW0
    go_wp2_with (go_at_call 38; refine (rf_Find A n c l e.trial _ _ (Hs.out.ext HX.out) hn).mono ?_; rw [Hix.out]; rintro _ _ ⟨rfl, rfl⟩)
    go_ret2
    exact ⟨HX.out, by rw [if_neg (by rw [Hno.out]; decide)]; rfl⟩
  | some i =>
    obtain ⟨hil, _⟩ := List.findIdx?_eq_some_iff_getElem.1 hf
    obtain ⟨b', o', t, A', c', hA, hb', ho, ht, hc', hs', f0, f1, f2, f3, f4⟩ := Hs.out.tr (show i < n by have := Hl.out; omega)
    subst hA
    have Hok := Lib.hid (show okX l e = expT t e.person e.tick by unfold okX; rw [hf]; simp only; rw [ht])
    have Hix := Lib.hid (idxT_some hf)
    have Hw := Lib.hid (Hwf.out t (List.mem_of_getElem? ht))
    have Hs' := Lib.hid hs'
    have j0 : (0 : Int) ≤ (i : Int) := by omega
    have j1 : (i : Int) < (n : Int) := by have := Hl.out; omega
    have j2 : ¬ (i : Int) < 0 := by omega
    have j3 : decide ((i : Int) < 0) = false := by simp
    clear hf ht hs'
    cases hnm : nameB e.person
    · have Hno := Lib.hid (show okX l e = false by rw [Hok.out]; unfold expT; rw [hnm]; rfl)
      go_enter Tryd.func23, Tryd.ntmps23
      go_upto_region 1 with fail
      try rw [← hW0]
      clear hW0
      go_wp2_with (first | (go_at_call 38; refine (rf_Find _ n c l e.trial _ _ (Hs.out.ext HX.out) hn).mono ?_; rw [Hix.out]; rintro _ _ ⟨rfl, rfl⟩) | (go_at_call 36; refine (ref_Name _ _ hp1).mono ?_; rw [hnm]; rintro _ _ ⟨rfl, rfl⟩))
      go_ret2
      exact ⟨HX.out, by rw [if_neg (by rw [Hno.out]; decide)]; rfl⟩
    by_cases h1 : e.tick < 0
    · have h1' : decide (e.tick < 0) = true := by simpa using h1
      have Hno := Lib.hid (show okX l e = false by rw [Hok.out]; unfold expT; rw [show decide (0 ≤ e.tick) = false by simp; omega]; simp)
      go_enter Tryd.func23, Tryd.ntmps23
      go_upto_region 1 with fail
      try rw [← hW0]
      clear hW0
      go_wp2_with (first | (go_at_call 38; refine (rf_Find _ n c l e.trial _ _ (Hs.out.ext HX.out) hn).mono ?_; rw [Hix.out]; rintro _ _ ⟨rfl, rfl⟩) | (go_at_call 36; refine (ref_Name _ _ hp1).mono ?_; rw [hnm]; rintro _ _ ⟨rfl, rfl⟩))
      go_ret2
      exact ⟨HX.out, by rw [if_neg (by rw [Hno.out]; decide)]; rfl⟩
    have h1' : decide (e.tick < 0) = false := by simpa using h1
    by_cases h2 : 1099511627776 < e.tick
    · have Hno := Lib.hid (show okX l e = false by rw [Hok.out]; unfold expT; rw [show decide (e.tick ≤ 1099511627776) = false by simp; omega]; simp)
      go_enter Tryd.func23, Tryd.ntmps23
      go_upto_region 1 with fail
      try rw [← hW0]
      clear hW0
      go_wp2_with (first | (go_at_call 38; refine (rf_Find _ n c l e.trial _ _ (Hs.out.ext HX.out) hn).mono ?_; rw [Hix.out]; rintro _ _ ⟨rfl, rfl⟩) | (go_at_call 36; refine (ref_Name _ _ hp1).mono ?_; rw [hnm]; rintro _ _ ⟨rfl, rfl⟩))
      go_ret2
      exact ⟨HX.out, by rw [if_neg (by rw [Hno.out]; decide)]; rfl⟩
    have Hok2 := Lib.hid (show okX l e = inT t e.person by rw [Hok.out]; unfold expT; rw [hnm, show decide (0 ≤ e.tick) = true by simp; omega, show decide (e.tick ≤ 1099511627776) = true by simp; omega]; simp)
    go_enter Tryd.func23, Tryd.ntmps23
    go_upto_region 1 with fail
    try rw [← hW0]
    clear hW0
    have hbW : b' < W0.heap.size := by omega
    have g0 := (HX.out.cell (p := ⟨b', o' + i * 5, none⟩) hb' trivial).trans f0
    have g1 := (HX.out.cell (p := ⟨b', o' + i * 5 + 1, none⟩) hb' trivial).trans f1
    have g2 := (HX.out.cell (p := ⟨b', o' + i * 5 + 2, none⟩) hb' trivial).trans f2
    have g3 := (HX.out.cell (p := ⟨b', o' + i * 5 + 3, none⟩) hb' trivial).trans f3
    have g4 := (HX.out.cell (p := ⟨b', o' + i * 5 + 4, none⟩) hb' trivial).trans f4
    have CA := Lib.hid (fun (W : World) (hx : Ext W0 W) => rf_Arm t e.person A' c' _ W ((Hs'.out.ext HX.out).ext hx) Hw.out hp)
    have Hix' := Hix.out
    clear f0 f1 f2 f3 f4
    go_upto_region 4 with (first | (go_at_call 38; refine (rf_Find _ n c l e.trial _ _ (Hs.out.ext HX.out) hn).mono ?_; rw [Hix.out]; rintro _ _ ⟨rfl, rfl⟩) | (go_at_call 36; refine (ref_Name _ _ hp1).mono ?_; rw [hnm]; rintro _ _ ⟨rfl, rfl⟩))
    refine wp_region_ext W0 (Keeps.refl _ _) (by kernel_rfl) (by kernel_rfl) ?_
    have hcell := fun (y : XW W0) => y.cell
    repeat (go_big_quiet_step (first | (go_at_call 15; with_reducible exact ext_calls (CA.out _ (XW.h _)))))
    refine wpQuiet_nil ?_
    rintro _ ⟨y, rfl⟩
    obtain ⟨Z, hZ⟩ : ∃ Z, Z = y.w := ⟨_, rfl⟩
    have HZ := Lib.hid (show Ext w Z by rw [hZ]; exact HX.out.trans y.h)
    have HgZ := Lib.hid (show Z.heap[w.heap.size]? = some (.cells #[.string e.trial, .string e.person, .int .i64 e.tick] 43) by rw [hZ]; exact Ext.blk y.h HgX.out)
    rw [← hZ]
    clear hZ hcell d0 d1 d2 g0 g1 g2 g3 g4 Hix'
    have HslZ := Lib.hid (Hsx.out.ext HZ.out)
    cases hin : inT t e.person
    · have Hno := Lib.hid (show okX l e = false by rw [Hok2.out, hin])
      go_wp2_with fail
      go_ret2
      exact ⟨HZ.out, by rw [if_neg (by rw [Hno.out]; decide)]; rfl⟩
    · have Hyes := Lib.hid (show okX l e = true by rw [Hok2.out, hin])
      have c0 := blk_cell HgZ.out 0 rfl
      have c1 := blk_cell HgZ.out 1 rfl
      have c2 := blk_cell HgZ.out 2 rfl
      have hgZ := (Array.getElem?_eq_some_iff.1 HgZ.out).1
      have hzs := HZ.out.size
      go_upto_region 7 with fail
      go_region_law (first | (refine step_append_Own (ok := fun _ => True) (R := xpR) _ (by rfl) (.tmp 47) (.tmp 48) 34 (by rfl) 43 i0 _ 40 Z.heap.size Tryd.underlying34 hi0 hz0 hz1 hz2 rfl (by decide) (by rfl) (Own.new_nil (by first | exact blk_new _ _ | exact blk_old (blk_new _ _) _ | exact blk_new_ _ _ (by simp) | exact blk_old (blk_new_ _ _ (by simp)) _) (by first | omega | (simp; done) | (simp; omega))) _ nx cx had (by rfl) (Sl.flat_src xpR_flat (HslZ.out.ext (by repeat (first | with_reducible exact Keeps.refl _ _ | with_reducible refine Keeps.drew ?_ | with_reducible refine Keeps.drewN ?_ _ | with_reducible refine Keeps.alloc ?_ _)))) (by omega) (by decide) (by first | omega | (simp; done) | (simp; omega)) ?_; intro A5 c5 w5 hown5 hg5 hat5; simp only [Nat.zero_add, List.nil_append] at hown5 hg5 hat5; have hx5 : Ext Z w5 := Keeps.grown (by repeat (first | with_reducible exact Keeps.refl _ _ | with_reducible refine Keeps.drew ?_ | with_reducible refine Keeps.drewN ?_ _ | with_reducible refine Keeps.alloc ?_ _)) hg5 (fun g hg hl => by simp [Value.ownBlock] at hg; omega); have ge5 := Ext.blk hx5 HgZ.out; have e0 := blk_cell ge5 0 rfl; have e1 := blk_cell ge5 1 rfl; have e2 := blk_cell ge5 2 rfl; have hb5 := (Array.getElem?_eq_some_iff.1 ge5).1; have hz5 := hx5.size) | (refine step_append_Own (ok := fun _ => True) (R := xpR) _ (by rfl) (.tmp 49) (.tmp 51) 34 (by rfl) 43 i0 _ 40 Z.heap.size Tryd.underlying34 hi0 hz0 hz1 hz2 rfl (by decide) (by rfl) (hown5.ext (by repeat (first | with_reducible exact Keeps.refl _ _ | with_reducible refine Keeps.drew ?_ | with_reducible refine Keeps.drewN ?_ _ | with_reducible refine Keeps.alloc ?_ _))) _ 1 1 [e] (by rfl) (Srcs.one_new rfl (by first | exact blk_new _ _ | exact (hg5.block _ (by first | omega | (simp; done) | (simp; omega)) (by simp [Value.ownBlock])).trans (by first | exact blk_new _ _ | exact blk_old (blk_new _ _) _ | exact blk_new_ _ _ (by simp) | exact blk_old (blk_new_ _ _ (by simp)) _)) rfl) (by omega) (by decide) (by first | omega | (simp; done) | (simp; omega)) ?_; intro A6 c6 w6 hown6 hg6 hat6; have hx6 : Ext Z w6 := Keeps.grown (by repeat (first | with_reducible exact hx5 | with_reducible exact Keeps.refl _ _ | with_reducible refine Keeps.drew ?_ | with_reducible refine Keeps.drewN ?_ _ | with_reducible refine Keeps.alloc ?_ _)) hg6 (fun g hg hl => by have := (hown5.lt g hg).1; omega)))
      all_goals
        go_wp2_with fail
        go_ret2
        exact ⟨HZ.out.trans hx6, by rw [if_pos Hyes.out]; exact ⟨A6, c6, rfl, Own.le hown6 hzs⟩⟩
end Go.Proofs.YtdkgphambjnbiaaDoor
