/-
  What is proved here: what the program's Decode does with a line that is an entry. Conditions: texts of at most a million bytes; the library's variables hold what their text lays.
-/
import Derived.Test.YtkfcbafmefdhmaaDoorAuDec2
import Derived.Test.YtkfcbafmefdhmaaDoorQuiet
import Derived.Test.YtkfcbafmefdhmaaDoorChain3
namespace Go.Proofs.YtkfcbafmefdhmaaDoor
open Go Go.RowKit Go.Proofs
attribute [local go_sem ↓] Go.wp_at_zero Go.wp_at_succ
set_option maxRecDepth 100000 in
set_option maxHeartbeats 4000000 in
theorem dec_entry_bad (s : ByteArray) (g b : Nat) (seed : Int) (es : List Ent) (v : Value) (E : Ent) (w : World) (hs : s.size ≤ 999999) (hv : VarsA w) (h : entP s.data.toList = some E) (hmay : mayE E = true) (hg : w.heap[g]? = some (.cells #[.pointer (some ⟨b, 0, none⟩)] 26)) (hc : ChainAt w b seed es v) (hes : es.length ≤ 100000)
    (hsum : E.sum ≠ sumE (aheadOf seed es) E) :
    Calls Tryd.prog 38 #[.string s, .pointer (some ⟨g, 0, none⟩)] w fun e w' => e = .returned (.int .i64 4) ∧ Ext w w' := by
  obtain ⟨m1, m2, m3, m4, m5, m6, m7⟩ := mayE_parts' hmay
  have hp : E.person.size < maxLen := by have := nameB_size m5; unfold maxLen; omega
  have hi : ∀ s ∈ E.items, s.size < maxLen := fun s hs => by have := nameB_size (List.all_eq_true.1 m7 s hs); unfold maxLen; omega
  have Hi := Lib.hid hi
  have HP := Lib.hid (aud_parse_yes s w hs hv h)
  have Hv := Lib.hid hv
  have Hg := Lib.hid hg
  have Hc := Lib.hid hc
  obtain ⟨Q, hQ⟩ : ∃ Q, Q = sumE (aheadOf seed es) E := ⟨_, rfl⟩
  rw [← hQ] at hsum
  have hb : (E.sum != Q) = true := by simpa using hsum
  have hb' : (E.sum == Q) = false := by simpa using hsum
  clear hsum
  have HQ := Lib.hid hQ
  clear hv h hg hc hQ hi m5 m7 hmay
  go_enter Tryd.func38, Tryd.ntmps38
  go_wp2_with fail
  refine HP.out.mono ?_
  rintro _ w1 ⟨A, c, rfl, hcap, hsl, hx1⟩
  have Hx1 := Lib.hid hx1
  have Hsl := Lib.hid hsl
  clear hx1 hsl
  go_upto_region 4 with fail
  have ge := blk_new w1 (.cells #[.int .i64 E.off, .int .i64 E.now, .string E.person, .slice A E.items.length c, .int .u64 E.sum] 33)
  have hxY : Ext w1 (w1.alloc (.cells #[.int .i64 E.off, .int .i64 E.now, .string E.person, .slice A E.items.length c, .int .u64 E.sum] 33)) := (Keeps.refl _ _).alloc _
  generalize hYY : w1.alloc (.cells #[.int .i64 E.off, .int .i64 E.now, .string E.person, .slice A E.items.length c, .int .u64 E.sum] 33) = Y at *
  have hwY : Ext w Y := Hx1.out.trans hxY
  have gg := hwY.blk Hg.out
  have q0 := blk_cell gg 0 rfl
  have e0 := blk_cell ge 0 rfl
  have e1 := blk_cell ge 1 rfl
  have e2 := blk_cell ge 2 rfl
  have e3 := blk_cell ge 3 rfl
  have e4 := blk_cell ge 4 rfl
  have lg : g < Y.heap.size := (Array.getElem?_eq_some_iff.1 gg).1
  have le : w1.heap.size < Y.heap.size := (Array.getElem?_eq_some_iff.1 ge).1
  have HxY := Lib.hid hxY
  have HwY := Lib.hid hwY
  have Hge := Lib.hid ge
  have Hgg := Lib.hid gg
  clear hYY hxY hwY ge gg
  have CA := Lib.hid (fun (W : World) (hx : Ext Y W) => chain_ahead b seed es v W (Hc.out.ext (HwY.out.trans hx)) (by omega))
  have CS := Lib.hid (fun (W : World) (hx : Ext Y W) => show Calls Tryd.prog 29 #[.int .u64 (aheadOf seed es), .agg #[.int .i64 E.off, .int .i64 E.now, .string E.person, .slice A E.items.length c, .int .u64 E.sum]] W (fun r w' => r = .returned (.int .u64 Q) ∧ Ext W w') by rw [HQ.out]; exact aud_sum (aheadOf seed es) E A c _ W ((Hsl.out.ext HxY.out).ext hx) m6 hp Hi.out m1 (by omega) m3 m4 (Hv.out.pow.ext (HwY.out.trans hx)))
  generalize aheadOf seed es = ah at CA CS
  refine wp_region_ext Y (Keeps.refl _ _) (by kernel_rfl) (by kernel_rfl) ?_
  have hcell := fun (y : XW Y) => y.cell
  repeat (go_big_quiet_step (first
    | (go_at_call 30; with_reducible exact ext_calls_same (CA.out _ (XW.h _)))
    | (go_at_call 29; with_reducible exact ext_calls (CS.out _ (XW.h _)))))
  refine wpQuiet_nil ?_
  rintro _ ⟨y, rfl⟩
  go_wp2_with fail
  go_ret
  exact ⟨rfl, HwY.out.trans y.h⟩
end Go.Proofs.YtkfcbafmefdhmaaDoor
