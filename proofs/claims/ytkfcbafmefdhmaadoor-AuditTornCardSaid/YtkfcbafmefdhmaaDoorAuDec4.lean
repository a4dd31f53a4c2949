/-
  What is proved here: what the program's Decode does with a line that is an entry whose sum is right. Conditions: texts of at most a million bytes; the library's variables hold what their text lays.
-/
import Derived.Test.YtkfcbafmefdhmaaDoorAuDec3
import Derived.Deep.DeepCutAuto
import Derived.Deep.RegionLaw
import Derived.Deep.RegionWith
namespace Go.Proofs.YtkfcbafmefdhmaaDoor
open Go Go.RowKit Go.Proofs
attribute [local go_sem ↓] Go.wp_at_zero Go.wp_at_succ
set_option maxRecDepth 100000 in
set_option maxHeartbeats 4000000 in
theorem dec_entry_yes (s : ByteArray) (g b : Nat) (seed : Int) (es : List Ent) (v : Value) (E : Ent) (w : World) (hs : s.size ≤ 999999) (hv : VarsA w) (h : entP s.data.toList = some E) (hmay : mayE E = true) (hg : w.heap[g]? = some (.cells #[.pointer (some ⟨b, 0, none⟩)] 26)) (hc : ChainAt w b seed es v) (hes : es.length ≤ 100000)
    (hsum : E.sum = sumE (aheadOf seed es) E) :
    Calls Tryd.prog 38 #[.string s, .pointer (some ⟨g, 0, none⟩)] w fun e w' => e = .returned (.int .i64 0) ∧ ∃ v', ChainAt w' b seed (es ++ [E]) v' ∧ Keeps (fun k => k ≠ b ∧ v.ownBlock ≠ some k) w w' ∧ (v'.ownBlock = v.ownBlock ∨ ∀ g, v'.ownBlock = some g → w.heap.size ≤ g) := by
  obtain ⟨m1, m2, m3, m4, m5, m6, m7⟩ := mayE_parts' hmay
  have hp : E.person.size < maxLen := by have := nameB_size m5; unfold maxLen; omega
  have hi : ∀ s ∈ E.items, s.size < maxLen := fun s hs => by have := nameB_size (List.all_eq_true.1 m7 s hs); unfold maxLen; omega
  have Hi := Lib.hid hi
  have HP := Lib.hid (aud_parse_yes s w hs hv h)
  have Hv := Lib.hid hv
  have Hg := Lib.hid hg
  have Hc := Lib.hid hc
  obtain ⟨Q, hQ⟩ : ∃ Q, Q = sumE (aheadOf seed es) E := ⟨_, rfl⟩
  rw [← hQ] at hsum
  have hb : (E.sum != Q) = false := by simpa using hsum
  have hb' : (E.sum == Q) = true := by simpa using hsum
  clear hsum
  have HQ := Lib.hid hQ
  clear hv h hg hc hQ hi m5 m7 hmay
  go_enter Tryd.func38, Tryd.ntmps38
  go_wp2_with fail
  refine HP.out.mono ?_
  rintro _ w1 ⟨A, c, rfl, hcap, hsl, hx1⟩
  have Hx1 := Lib.hid hx1
  have Hsl := Lib.hid hsl
  clear hx1 hsl
  go_upto_region 4 with fail
  have ge := blk_new w1 (.cells #[.int .i64 E.off, .int .i64 E.now, .string E.person, .slice A E.items.length c, .int .u64 E.sum] 33)
  have hxY : Ext w1 (w1.alloc (.cells #[.int .i64 E.off, .int .i64 E.now, .string E.person, .slice A E.items.length c, .int .u64 E.sum] 33)) := (Keeps.refl _ _).alloc _
  generalize hYY : w1.alloc (.cells #[.int .i64 E.off, .int .i64 E.now, .string E.person, .slice A E.items.length c, .int .u64 E.sum] 33) = Y at *
  have hwY : Ext w Y := Hx1.out.trans hxY
  have gg := hwY.blk Hg.out
  have q0 := blk_cell gg 0 rfl
  have e0 := blk_cell ge 0 rfl
  have e1 := blk_cell ge 1 rfl
  have e2 := blk_cell ge 2 rfl
  have e3 := blk_cell ge 3 rfl
  have e4 := blk_cell ge 4 rfl
  have lg : g < Y.heap.size := (Array.getElem?_eq_some_iff.1 gg).1
  have le : w1.heap.size < Y.heap.size := (Array.getElem?_eq_some_iff.1 ge).1
  have HxY := Lib.hid hxY
  have HwY := Lib.hid hwY
  have Hge := Lib.hid ge
  have Hgg := Lib.hid gg
  clear hYY hxY hwY ge gg
  have CA := Lib.hid (fun (W : World) (hx : Ext Y W) => chain_ahead b seed es v W (Hc.out.ext (HwY.out.trans hx)) (by omega))
  have CS := Lib.hid (fun (W : World) (hx : Ext Y W) => show Calls Tryd.prog 29 #[.int .u64 (aheadOf seed es), .agg #[.int .i64 E.off, .int .i64 E.now, .string E.person, .slice A E.items.length c, .int .u64 E.sum]] W (fun r w' => r = .returned (.int .u64 Q) ∧ Ext W w') by rw [HQ.out]; exact aud_sum (aheadOf seed es) E A c _ W ((Hsl.out.ext HxY.out).ext hx) m6 hp Hi.out m1 (by omega) m3 m4 (Hv.out.pow.ext (HwY.out.trans hx)))
  generalize aheadOf seed es = ah at CA CS
  refine wp_region_ext Y (Keeps.refl _ _) (by kernel_rfl) (by kernel_rfl) ?_
  have hcell := fun (y : XW Y) => y.cell
  repeat (go_big_quiet_step (first
    | (go_at_call 30; with_reducible exact ext_calls_same (CA.out _ (XW.h _)))
    | (go_at_call 29; with_reducible exact ext_calls (CS.out _ (XW.h _)))))
  refine wpQuiet_nil ?_
  rintro _ ⟨y, rfl⟩
  obtain ⟨Z, hZ⟩ : ∃ Z, Z = y.w := ⟨_, rfl⟩
  have hYZ : Ext Y Z := by rw [hZ]; exact y.h
  rw [← hZ]
  clear hZ hcell e0 e1 e2 e3 e4 q0 CA CS
  have ge := hYZ.blk Hge.out
  have gg := hYZ.blk Hgg.out
  have hwZ : Ext w Z := HwY.out.trans hYZ
  have hc := Hc.out.ext hwZ
  have Hrow := Lib.hid Hc.out.own.lt
  obtain ⟨A0, c0, rfl⟩ := hc.own.form
  have q0 := blk_cell gg 0 rfl
  have q1 := blk_cell hc.blk 1 rfl
  have f1 := blk_free hc.blk
  have e0 := blk_cell ge 0 rfl
  have e1 := blk_cell ge 1 rfl
  have e2 := blk_cell ge 2 rfl
  have e3 := blk_cell ge 3 rfl
  have e4 := blk_cell ge 4 rfl
  have Hc2 := Lib.hid hc
  have HwZ := Lib.hid hwZ
  have hbl : b < w.heap.size := (Array.getElem?_eq_some_iff.1 Hc.out.blk).1
  have hbg : b ≠ g := by
    rintro rfl
    have h1 := Hc.out.blk
    rw [Hg.out] at h1
    injection h1 with h1
    injection h1 with _ h2 _
    exact absurd h2 (by decide)
  have hszZ := hwZ.size
  have Hs3 := Lib.hid (show Sl strR (Go.Proofs.YtkfcbafmefdhmaaDoor.off (fun k => b < k) (.slice A0 es.length c0)) Z A E.items.length E.items from
    (Hsl.out.ext (HxY.out.trans hYZ)).mono (fun k hk h => ⟨by have := Hx1.out.size; omega, fun e => by have := (Hrow.out k e).2; omega⟩))
  have Hnb := Lib.hid (show some b ≠ (Value.slice A0 es.length c0).ownBlock from fun e => by have := (Hrow.out b e.symm).1; omega)
  obtain ⟨i0, hi0, hz0, hz1, hz2⟩ := info_parts info_audEnt
  have Hcap := Lib.hid hcap
  have hbx : b < Z.heap.size := by omega
  have hgx : g < Z.heap.size := (Array.getElem?_eq_some_iff.1 gg).1
  have hex : w1.heap.size < Z.heap.size := (Array.getElem?_eq_some_iff.1 ge).1
  have Hgg2 := Lib.hid gg
  have Hng := Lib.hid (show some g ≠ (Value.slice A0 es.length c0).ownBlock from fun e => Own.ne_blk Hc.out.own Hg.out (by decide) e.symm)
  clear hc ge gg hYZ hwZ hcap
  go_upto_region 6 with fail
  go_cut [] (fun wy => ∃ v', ChainAt wy b seed (es ++ [E]) v' ∧ Keeps (fun k => k ≠ b ∧ (Value.slice A0 es.length c0).ownBlock ≠ some k) Z wy ∧ (v'.ownBlock = (Value.slice A0 es.length c0).ownBlock ∨ ∀ g, v'.ownBlock = some g → Z.heap.size ≤ g))
  case first =>
    go_region_law (first
      | (refine step_append_Own (ok := fun k => b < k) (R := entR) _ (by rfl) (.tmp 24) (.tmp 26) 37 (by rfl) 33 i0 _ 64 (b + 1) Tryd.underlying37 hi0 hz0 hz1 hz2 rfl (by decide) (by rfl) (Hc2.out.own.ext (by repeat (first | with_reducible exact Keeps.refl _ _ | with_reducible refine Keeps.drew ?_ | with_reducible refine Keeps.drewN ?_ _ | with_reducible refine Keeps.alloc ?_ _))) _ 1 1 [E] (by rfl) (Srcs.one_new ⟨A, c, rfl, Hcap.out, Hs3.out.ext (by repeat (first | with_reducible exact Keeps.refl _ _ | with_reducible refine Keeps.drew ?_ | with_reducible refine Keeps.drewN ?_ _ | with_reducible refine Keeps.alloc ?_ _))⟩ (blk_new _ _) rfl) (by omega) (by decide) (by simp; omega) ?_; intro A4 c4 w4 hown4 hg4 hat4; have hb4 := (hg4.block b (by simp; omega) Hnb.out).trans (blk_old Hc2.out.blk _); have q4 := blk_cell hb4 1 rfl; have f4 := blk_free hb4; have hg5 := (hg4.block g (by simp; omega) Hng.out).trans (blk_old Hgg2.out _); have q5 := blk_cell hg5 0 rfl))
    all_goals
      go_wp2_with fail
      go_meet
      refine ⟨.slice A4 (es.length + 1) c4, ⟨by have := blk_set hb4 1 (.slice A4 (es.length + 1) c4); simpa using this, ?_⟩, ?_, ?_⟩
      · have h5 := hown4.keep (w' := w4.setCell ⟨b, 1, none⟩ (.slice A4 (es.length + 1) c4)) ((Keeps.refl _ _).setCell (fun _ h => absurd h.1 (Nat.lt_irrefl _)) _) (fun g hg => Below.heap_setCell _ _ _ _ (by have := (hown4.lt g hg).1; simp; omega))
        simpa using h5
      · refine Keeps.setCell (Keeps.grown (by repeat (first | with_reducible exact Keeps.refl _ _ | with_reducible refine Keeps.drew ?_ | with_reducible refine Keeps.drewN ?_ _ | with_reducible refine Keeps.alloc ?_ _)) hg4 (fun k hk _ h => h.2 hk)) (fun _ h => h.1 rfl) _
      · rcases hat4 with e | e
        · exact .inl e
        · right
          intro g hg
          rw [e] at hg
          injection hg with hg
          simp at hg; omega
  case rest =>
    obtain ⟨v', hch', hky, hat⟩ := hcut
    obtain ⟨wy, hwy⟩ : ∃ wy, wy = wc := ⟨_, rfl⟩
    rw [← hwy] at hch' hky ⊢
    clear hwy
    have Hch' := Lib.hid hch'
    have Hky := Lib.hid hky
    have Hat := Lib.hid hat
    clear hch' hky hat
    go_wp2_with fail
    go_ret
    refine ⟨rfl, v', Hch'.out, Keeps.then_ (HwZ.out.keeps _) Hky.out (fun _ _ h => h), ?_⟩
    rcases Hat.out with e | e
    · exact .inl e
    · exact .inr (fun g hg => by have := e g hg; omega)
end Go.Proofs.YtkfcbafmefdhmaaDoor
