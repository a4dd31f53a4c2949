/-
  What is proved here: the law EventDecodes returns true, whatever the bytes, and leaves old memory as it was. Conditions: the library's variables, and the names of the kinds, hold what their text lays.
-/
import Derived.Test.YtihdeidaekheoaaDoorLawBytes
import Derived.Test.YtihdeidaekheoaaDoorEvRDec
import Derived.Test.YtihdeidaekheoaaDoorEvDecC
import Derived.Deep.RegionWith
namespace Go.Proofs.YtihdeidaekheoaaDoor
open Go Go.RowKit Go.Proofs
attribute [local go_sem ↓] Go.wp_at_zero Go.wp_at_succ

set_option maxRecDepth 100000 in
set_option maxHeartbeats 8000000 in
theorem law_Dec_a (A : Option Addr) (n c : Nat) (w : World) (hn : n ≤ 140737488355328) (hv : Vars w) (h : 1000 < n) :
    Calls Tryd.prog 9 #[.slice A n c] w fun r w' => r = .returned (.bool true) ∧ Ext w w' := by
  have Hv := Lib.hid hv
  clear hv
  go_enter Tryd.func9, Tryd.ntmps9
  go_wp2_with (go_at_call 12; refine (law_lives _ Hv.out).mono ?_; rintro _ w1 ⟨rfl, hx1⟩; have Hx1 := Lib.hid hx1; clear hx1)
  go_ret
  exact ⟨rfl, Hx1.out⟩
set_option maxRecDepth 100000 in
set_option maxHeartbeats 8000000 in
theorem law_Dec_err (A : Option Addr) (n c : Nat) (bs : List UInt8) (ok : Nat → Prop) (w : World) (hs : Sl byteR ok w A n bs) (hok : ∀ k, ok k → k < w.heap.size) (hnc : n ≤ c) (hv : Vars w) (hn1 : ¬ 1000 < n) (e : Ev) (m f : Int) (hd : decE bs = (e, m, f)) (hf : f ≠ 0) :
    Calls Tryd.prog 9 #[.slice A n c] w fun r w' => r = .returned (.bool true) ∧ Ext w w' := by
  have Hv := Lib.hid hv
  have Hs := Lib.hid hs
  have Hok := Lib.hid hok
  have f0 : (f == 0) = false := by simpa using hf
  have f1 : (f != 0) = true := by simpa using hf
  have C1 := Lib.hid (fun (W : World) (h : Ext w W) => show Calls Tryd.prog 34 #[.slice A n c] W (fun r w' => r = .returned (.tuple #[.agg (evC e), .int .i64 m, .int .i64 f]) ∧ Ext W w') by have h9 := ev_Decode A n c bs ok W (Hs.out.ext h) (fun k hk => Nat.lt_of_lt_of_le (Hok.out k hk) h.size) (by omega) hnc (Hv.out.mx.ext h); unfold DecPost at h9; rw [hd] at h9; exact h9)
  have C2 := Lib.hid (fun (W : World) (h : Ext w W) => show Calls Tryd.prog 35 #[.slice A n c] W (fun r w' => r = .returned (.tuple #[.agg (evC e), .int .i64 m, .int .i64 f]) ∧ Ext W w') by have h9 := ref_Decode A n c bs ok W (Hs.out.ext h) (by omega) hnc; unfold DecPost at h9; rw [hd] at h9; exact h9)
  clear hv hs hok hd hf
  unfold evC at C1 C2
  go_enter Tryd.func9, Tryd.ntmps9
  go_wp2_with (first
    | (go_at_call 12; refine (law_lives _ Hv.out).mono ?_; rintro _ w1 ⟨rfl, hx1⟩; have Hx1 := Lib.hid hx1; clear hx1)
    | (go_at_call 34; refine (C1.out _ Hx1.out).mono ?_; rintro _ w2 ⟨rfl, hx2⟩; have Hx2 := Lib.hid (Hx1.out.trans hx2); clear hx2)
    | (go_at_call 35; refine (C2.out _ (Hx2.out.alloc _)).mono ?_; rintro _ w3 ⟨rfl, hx3⟩; have hg3 := hx3.blk (blk_new w2 _); have hg3l : w2.heap.size < w3.heap.size := (Array.getElem?_eq_some_iff.1 hg3).1; have d0 := blk_cell hg3 0 rfl; have d1 := blk_cell hg3 1 rfl; have d2 := blk_cell hg3 2 rfl; have d3 := blk_cell hg3 3 rfl; have d4 := blk_cell hg3 4 rfl; have d5 := blk_cell hg3 5 rfl; have d6 := blk_cell hg3 6 rfl; have d7 := blk_cell hg3 7 rfl; have Hg3 := Lib.hid hg3; have Hx3 := Lib.hid (Keeps.trans (Hx2.out.alloc _) hx3); clear hx3 hg3))
  go_ret
  exact ⟨rfl, Hx3.out.alloc _⟩
set_option maxRecDepth 100000 in
set_option maxHeartbeats 8000000 in
theorem law_Dec_ok (A : Option Addr) (n c : Nat) (bs : List UInt8) (ok : Nat → Prop) (w : World) (hs : Sl byteR ok w A n bs) (hok : ∀ k, ok k → k < w.heap.size) (hnc : n ≤ c) (hv : Vars w) (hn1 : ¬ 1000 < n) (e : Ev) (m : Nat) (hd : decE bs = (e, (m : Int), 0)) (hmay : mayE e = true) (hmn : m ≤ n) (hbk : encE e = bs.take m) (hml : m = (encE e).length) (hsm : EvSm e) :
    Calls Tryd.prog 9 #[.slice A n c] w fun r w' => r = .returned (.bool true) ∧ Ext w w' := by
  have Hv := Lib.hid hv
  have Hs := Lib.hid hs
  have Hok := Lib.hid hok
  have Hsm := Lib.hid hsm
  have C1 := Lib.hid (fun (W : World) (h : Ext w W) => show Calls Tryd.prog 34 #[.slice A n c] W (fun r w' => r = .returned (.tuple #[.agg (evC e), .int .i64 (m : Int), .int .i64 0]) ∧ Ext W w') by have h9 := ev_Decode A n c bs ok W (Hs.out.ext h) (fun k hk => Nat.lt_of_lt_of_le (Hok.out k hk) h.size) (by omega) hnc (Hv.out.mx.ext h); unfold DecPost at h9; rw [hd] at h9; exact h9)
  have C2 := Lib.hid (fun (W : World) (h : Ext w W) => show Calls Tryd.prog 35 #[.slice A n c] W (fun r w' => r = .returned (.tuple #[.agg (evC e), .int .i64 (m : Int), .int .i64 0]) ∧ Ext W w') by have h9 := ref_Decode A n c bs ok W (Hs.out.ext h) (by omega) hnc; unfold DecPost at h9; rw [hd] at h9; exact h9)
  obtain ⟨S, hS⟩ : ∃ S : ByteArray, S = ⟨(encE e).toArray⟩ := ⟨_, rfl⟩
  have HS := Lib.hid hS
  have Hbk := Lib.hid hbk
  have Hml := Lib.hid hml
  have j0 : (0 : Int) ≤ (m : Int) := by omega
  have j1 : (m : Int) ≤ (c : Int) := by omega
  have hpos : 0 < n := by have := (encE_len hmay).1; omega
  obtain ⟨b, o, rfl, _⟩ := hs.2 hpos
  clear hv hs hok hd hS hbk hml hsm
  unfold evC at C1 C2
  go_enter Tryd.func9, Tryd.ntmps9
  go_wp2_with (first
    | (go_at_call 12; refine (law_lives _ Hv.out).mono ?_; rintro _ w1 ⟨rfl, hx1⟩; have Hx1 := Lib.hid hx1; clear hx1)
    | (go_at_call 34; refine (C1.out _ Hx1.out).mono ?_; rintro _ w2 ⟨rfl, hx2⟩; have Hx2 := Lib.hid (Hx1.out.trans hx2); clear hx2)
    | (go_at_call 35; refine (C2.out _ (Hx2.out.alloc _)).mono ?_; rintro _ w3 ⟨rfl, hx3⟩; have hg3 := hx3.blk (blk_new w2 _); have hg3l : w2.heap.size < w3.heap.size := (Array.getElem?_eq_some_iff.1 hg3).1; have d0 := blk_cell hg3 0 rfl; have d1 := blk_cell hg3 1 rfl; have d2 := blk_cell hg3 2 rfl; have d3 := blk_cell hg3 3 rfl; have d4 := blk_cell hg3 4 rfl; have d5 := blk_cell hg3 5 rfl; have d6 := blk_cell hg3 6 rfl; have d7 := blk_cell hg3 7 rfl; have Hg3 := Lib.hid hg3; have Hx3 := Lib.hid (Keeps.trans (Hx2.out.alloc _) hx3); clear hx3 hg3)
    | (go_at_call 15; refine (ev_Encode_yes e _ Hsm.out (Hv.out.mx.ext (Hx3.out.alloc _)) hmay).mono ?_; rintro _ w4 ⟨hx4, A4, c4, m4, rfl, hb4⟩; have Hx4 := Lib.hid (Keeps.trans (Hx3.out.alloc _) hx4); have Hb4 := Lib.hid hb4; clear hx4 hb4))
  have k1 := string_of_bts (P := Tryd.prog) w4.drew 28 9 5 A4 c4 Tryd.underlying28 Tryd.underlying5 Tryd.underlying9 (Hb4.out.ext (Keeps.refl _ w4).drew)
  rw [← HS.out] at k1
  have k2 := text_of_sl (P := Tryd.prog) 28 9 5 0 m c Tryd.underlying28 Tryd.underlying5 Tryd.underlying9 (Hs.out.ext Hx4.out.drew) (by omega) 0
  have e9 : bts ((bs.drop 0).take m) = S := by rw [HS.out, Hbk.out]; rfl
  have hw0 : w4.drew.drewN 0 = w4.drew := rfl
  rw [e9, hw0] at k2
  simp only [Nat.add_zero] at k2
  clear e9 hw0 d0 d1 d2 d3 d4 d5 d6 d7
  go_region
  all_goals
    go_wp2_with fail
    go_ret
    exact ⟨rfl, Hx4.out.drew⟩
theorem law_Decodes (A : Option Addr) (n c : Nat) (bs : List UInt8) (ok : Nat → Prop) (w : World) (hs : Sl byteR ok w A n bs) (hok : ∀ k, ok k → k < w.heap.size) (hn : n ≤ 140737488355328) (hnc : n ≤ c) (hv : Vars w) :
    Calls Tryd.prog 9 #[.slice A n c] w fun r w' => r = .returned (.bool true) ∧ Ext w w' := by
  by_cases hn1 : 1000 < n
  · exact law_Dec_a A n c w hn hv hn1
  · by_cases hf : (decE bs).2.2 = 0
    · obtain ⟨e, m, hd, hmay, hm, hbk, hml⟩ := decE_back hf
      have hF := mayF hmay
      have hsm : EvSm e := ⟨by have := (nameB_size hF.src).2; omega, by have := hF.psize; omega, by have := hF.isize; omega, by have := hF.tsize; omega⟩
      exact law_Dec_ok A n c bs ok w hs hok hnc hv hn1 e m hd hmay (by rw [← hs.1]; exact hm) hbk hml hsm
    · exact law_Dec_err A n c bs ok w hs hok hnc hv hn1 (decE bs).1 (decE bs).2.1 (decE bs).2.2 rfl hf
end Go.Proofs.YtihdeidaekheoaaDoor
