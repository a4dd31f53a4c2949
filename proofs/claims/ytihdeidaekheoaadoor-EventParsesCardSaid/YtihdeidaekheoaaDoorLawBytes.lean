/-
  What is proved here: the law EventBytes returns true, whatever the event, the bytes behind it and the cut, and leaves old memory as it was. Conditions: no text is longer than a text can be; the library's variables, and the names of the kinds, hold what their text lays.
-/
import Derived.Test.YtihdeidaekheoaaDoorLawRows
import Derived.Test.YtihdeidaekheoaaDoorEvREnc
import Derived.Test.YtihdeidaekheoaaDoorEvCut
import Derived.Deep.RegionWith
namespace Go.Proofs.YtihdeidaekheoaaDoor
open Go Go.RowKit Go.Proofs
attribute [local go_sem ↓] Go.wp_at_zero Go.wp_at_succ

theorem Sl.byteSrc {P : Program} {t el : TypeId} {ok : Nat → Prop} {w : World} {A : Option Addr} {n c : Nat} {bs : List UInt8} (h : Sl byteR ok w A n bs) (ht : P.underlying t = some (.slice el)) : Go.Src P 1 t (.slice A n c) n (bs.map byteV) w := by
  rcases Nat.eq_zero_or_pos n with rfl | hpos
  · have : bs = [] := List.eq_nil_of_length_eq_zero h.1
    subst this
    cases A with
    | none => exact Go.Src.ofNil w ht c
    | some a => exact Go.Src.ofSlice w ht a 0 c [] rfl (fun j u hu => by simp at hu) (fun u hu => by simp at hu)
  · obtain ⟨b, o, rfl, _, _, hc⟩ := h.2 hpos
    refine Go.Src.ofSlice w ht _ n c _ (by simp [h.1]) (fun j u hu => ?_) (byteV_one bs)
    rw [List.getElem?_map] at hu
    obtain ⟨x, hx, rfl⟩ := Option.map_eq_some_iff.1 hu
    obtain ⟨xs, rfl, hcell⟩ := hc j x hx
    rw [ad_add]
    have := hcell 0 _ rfl
    simpa [byteR] using this
theorem ev_Decode_enc (e : Ev) (hmay : mayE e = true) (bt : List UInt8) (p : Nat) (hp : p = (encE e).length) (A : Option Addr) (n c : Nat) (ok : Nat → Prop) (w : World) (hs : Sl byteR ok w A n (encE e ++ bt)) (hok : ∀ k, ok k → k < w.heap.size) (hn : n ≤ 100000) (hnc : n ≤ c) (hm : Mx w) :
    Calls Tryd.prog 34 #[.slice A n c] w fun r w' => r = .returned (.tuple #[.agg #[.string e.src, .int .i64 e.num, .int .i64 e.tick, .int .i64 e.kind, .string e.person, .string e.item, .int .i64 e.value, .string e.text], .int .i64 (p : Int), .int .i64 0]) ∧ Ext w w' := by
  have h9 := ev_Decode A n c (encE e ++ bt) ok w hs hok hn hnc hm
  unfold DecPost at h9
  rw [decE_enc hmay bt, ← hp] at h9
  exact h9
theorem ev_Decode_cut (e : Ev) (hmay : mayE e = true) (cut : Nat) (hc : cut < (encE e).length) (A : Option Addr) (n c : Nat) (ok : Nat → Prop) (w : World) (hs : Sl byteR ok w A n ((encE e).take cut)) (hok : ∀ k, ok k → k < w.heap.size) (hn : n ≤ 100000) (hnc : n ≤ c) (hm : Mx w) :
    Calls Tryd.prog 34 #[.slice A n c] w fun r w' => r = .returned (.tuple #[.agg #[.string ⟨#[]⟩, .int .i64 0, .int .i64 0, .int .i64 0, .string ⟨#[]⟩, .string ⟨#[]⟩, .int .i64 0, .string ⟨#[]⟩], .int .i64 0, .int .i64 3]) ∧ Ext w w' := by
  have h9 := ev_Decode A n c _ ok w hs hok hn hnc hm
  unfold DecPost at h9
  rw [dec_cut hmay hc] at h9
  exact h9
theorem bts_full {w : World} {base : Nat} {v : Value} {n : Nat} {bs : List UInt8} (h : Bts w base v n bs) : bs.length = n := h.1

set_option maxRecDepth 100000 in
set_option maxHeartbeats 8000000 in
theorem law_Bytes_a (e : Ev) (A : Option Addr) (n c : Nat) (cut : Int) (w : World) (hwf : EvWf e) (hn : n ≤ 140737488355328) (hv : Vars w) (h : bigE e 1000 = true ∨ 100 < n) :
    Calls Tryd.prog 8 #[.agg #[.string e.src, .int .i64 e.num, .int .i64 e.tick, .int .i64 e.kind, .string e.person, .string e.item, .int .i64 e.value, .string e.text], .slice A n c, .int .i64 cut] w fun r w' => r = .returned (.bool true) ∧ Ext w w' := by
  have Hv := Lib.hid hv
  cases hb : bigE e 1000
  · have hn1 : 100 < n := by rcases h with h | h; (· rw [hb] at h; cases h); exact h
    have GB := Lib.hid (fun W : World => show Calls Tryd.prog 13 #[.agg #[.string e.src, .int .i64 e.num, .int .i64 e.tick, .int .i64 e.kind, .string e.person, .string e.item, .int .i64 e.value, .string e.text], .int .i64 1000] W (fun r w' => r = .returned (.bool false) ∧ Ext W w') by rw [← hb]; exact ref_Big e 1000 W hwf)
    clear hv hwf h hb
    go_enter Tryd.func8, Tryd.ntmps8
    go_wp2_with (first | (go_at_call 12; refine (law_lives _ (Hv.out.ext ((Keeps.refl _ _).alloc _))).mono ?_; rintro _ w1 ⟨rfl, hx1⟩; have hg1 := hx1.blk (blk_new w _); have r0 := blk_cell hg1 0 rfl; have r1 := blk_cell hg1 1 rfl; have r2 := blk_cell hg1 2 rfl; have r3 := blk_cell hg1 3 rfl; have r4 := blk_cell hg1 4 rfl; have r5 := blk_cell hg1 5 rfl; have r6 := blk_cell hg1 6 rfl; have r7 := blk_cell hg1 7 rfl; have Hg1 := Lib.hid hg1; have Hx1 := Lib.hid (Keeps.trans ((Keeps.refl (fun _ => True) w).alloc _) hx1); clear hx1 hg1) | (go_at_call 13; (with_reducible refine (GB.out _).mono ?_); rintro _ w2 ⟨rfl, hx2⟩; have hg2 := hx2.blk Hg1.out; clear r0 r1 r2 r3 r4 r5 r6 r7; have r0 := blk_cell hg2 0 rfl; have r1 := blk_cell hg2 1 rfl; have r2 := blk_cell hg2 2 rfl; have r3 := blk_cell hg2 3 rfl; have r4 := blk_cell hg2 4 rfl; have r5 := blk_cell hg2 5 rfl; have r6 := blk_cell hg2 6 rfl; have r7 := blk_cell hg2 7 rfl; have Hg2 := Lib.hid hg2; have Hx2 := Lib.hid (Hx1.out.trans hx2); clear hx2 hg2))
    go_ret
    exact ⟨rfl, Hx2.out⟩
  · have GB := Lib.hid (fun W : World => show Calls Tryd.prog 13 #[.agg #[.string e.src, .int .i64 e.num, .int .i64 e.tick, .int .i64 e.kind, .string e.person, .string e.item, .int .i64 e.value, .string e.text], .int .i64 1000] W (fun r w' => r = .returned (.bool true) ∧ Ext W w') by rw [← hb]; exact ref_Big e 1000 W hwf)
    clear hv hwf h hb
    go_enter Tryd.func8, Tryd.ntmps8
    go_wp2_with (first | (go_at_call 12; refine (law_lives _ (Hv.out.ext ((Keeps.refl _ _).alloc _))).mono ?_; rintro _ w1 ⟨rfl, hx1⟩; have hg1 := hx1.blk (blk_new w _); have r0 := blk_cell hg1 0 rfl; have r1 := blk_cell hg1 1 rfl; have r2 := blk_cell hg1 2 rfl; have r3 := blk_cell hg1 3 rfl; have r4 := blk_cell hg1 4 rfl; have r5 := blk_cell hg1 5 rfl; have r6 := blk_cell hg1 6 rfl; have r7 := blk_cell hg1 7 rfl; have Hg1 := Lib.hid hg1; have Hx1 := Lib.hid (Keeps.trans ((Keeps.refl (fun _ => True) w).alloc _) hx1); clear hx1 hg1) | (go_at_call 13; (with_reducible refine (GB.out _).mono ?_); rintro _ w2 ⟨rfl, hx2⟩; have hg2 := hx2.blk Hg1.out; clear r0 r1 r2 r3 r4 r5 r6 r7; have r0 := blk_cell hg2 0 rfl; have r1 := blk_cell hg2 1 rfl; have r2 := blk_cell hg2 2 rfl; have r3 := blk_cell hg2 3 rfl; have r4 := blk_cell hg2 4 rfl; have r5 := blk_cell hg2 5 rfl; have r6 := blk_cell hg2 6 rfl; have r7 := blk_cell hg2 7 rfl; have Hg2 := Lib.hid hg2; have Hx2 := Lib.hid (Hx1.out.trans hx2); clear hx2 hg2))
    go_ret
    exact ⟨rfl, Hx2.out⟩

set_option maxRecDepth 100000 in
set_option maxHeartbeats 8000000 in
theorem law_Bytes_no (e : Ev) (A : Option Addr) (n c : Nat) (cut : Int) (w : World) (hwf : EvWf e) (hv : Vars w) (hb : bigE e 1000 = false) (hn1 : ¬ 100 < n) (hmay : mayE e = false) :
    Calls Tryd.prog 8 #[.agg #[.string e.src, .int .i64 e.num, .int .i64 e.tick, .int .i64 e.kind, .string e.person, .string e.item, .int .i64 e.value, .string e.text], .slice A n c, .int .i64 cut] w fun r w' => r = .returned (.bool true) ∧ Ext w w' := by
  have Hv := Lib.hid hv
  have GB := Lib.hid (fun W : World => show Calls Tryd.prog 13 #[.agg #[.string e.src, .int .i64 e.num, .int .i64 e.tick, .int .i64 e.kind, .string e.person, .string e.item, .int .i64 e.value, .string e.text], .int .i64 1000] W (fun r w' => r = .returned (.bool false) ∧ Ext W w') by rw [← hb]; exact ref_Big e 1000 W hwf)
  have Hsm := Lib.hid (evSm_of hb (by omega))
  clear hv hwf hb
  go_enter Tryd.func8, Tryd.ntmps8
  go_wp2_with (first
    | (go_at_call 12; refine (law_lives _ (Hv.out.ext ((Keeps.refl _ _).alloc _))).mono ?_; rintro _ w1 ⟨rfl, hx1⟩; have hg1 := hx1.blk (blk_new w _); have r0 := blk_cell hg1 0 rfl; have r1 := blk_cell hg1 1 rfl; have r2 := blk_cell hg1 2 rfl; have r3 := blk_cell hg1 3 rfl; have r4 := blk_cell hg1 4 rfl; have r5 := blk_cell hg1 5 rfl; have r6 := blk_cell hg1 6 rfl; have r7 := blk_cell hg1 7 rfl; have Hg1 := Lib.hid hg1; have Hx1 := Lib.hid (Keeps.trans ((Keeps.refl (fun _ => True) w).alloc _) hx1); clear hx1 hg1)
    | (go_at_call 13; (with_reducible refine (GB.out _).mono ?_); rintro _ w2 ⟨rfl, hx2⟩; have hg2 := hx2.blk Hg1.out; clear r0 r1 r2 r3 r4 r5 r6 r7; have r0 := blk_cell hg2 0 rfl; have r1 := blk_cell hg2 1 rfl; have r2 := blk_cell hg2 2 rfl; have r3 := blk_cell hg2 3 rfl; have r4 := blk_cell hg2 4 rfl; have r5 := blk_cell hg2 5 rfl; have r6 := blk_cell hg2 6 rfl; have r7 := blk_cell hg2 7 rfl; have Hg2 := Lib.hid hg2; have Hx2 := Lib.hid (Hx1.out.trans hx2); clear hx2 hg2)
    | (go_at_call 15; refine (ev_Encode_no e _ Hsm.out (Hv.out.mx.ext Hx2.out) hmay).mono ?_; rintro _ w3 ⟨rfl, hx3⟩; have hg3 := hx3.blk Hg2.out; clear r0 r1 r2 r3 r4 r5 r6 r7; have r0 := blk_cell hg3 0 rfl; have r1 := blk_cell hg3 1 rfl; have r2 := blk_cell hg3 2 rfl; have r3 := blk_cell hg3 3 rfl; have r4 := blk_cell hg3 4 rfl; have r5 := blk_cell hg3 5 rfl; have r6 := blk_cell hg3 6 rfl; have r7 := blk_cell hg3 7 rfl; have Hx3 := Lib.hid (Hx2.out.trans hx3); clear hx3 hg3)
    | (go_at_call 14; refine (ref_May e _ Hsm.out).mono ?_; rw [hmay]; rintro _ w4 ⟨rfl, hx4⟩; have Hx4 := Lib.hid (Hx3.out.trans hx4); clear hx4))
  go_ret
  exact ⟨rfl, Hx4.out⟩

set_option maxRecDepth 100000 in
set_option maxHeartbeats 8000000 in
theorem law_Bytes_yes (e : Ev) (A : Option Addr) (n c : Nat) (bt : List UInt8) (cut : Int) (ok : Nat → Prop) (w : World) (hs : Sl byteR ok w A n bt) (hwf : EvWf e) (hv : Vars w) (hb : bigE e 1000 = false) (hn1 : ¬ 100 < n) (hmay : mayE e = true) :
    Calls Tryd.prog 8 #[.agg #[.string e.src, .int .i64 e.num, .int .i64 e.tick, .int .i64 e.kind, .string e.person, .string e.item, .int .i64 e.value, .string e.text], .slice A n c, .int .i64 cut] w fun r w' => r = .returned (.bool true) ∧ Ext w w' := by
  have Hv := Lib.hid hv
  have Hs := Lib.hid hs
  have GB := Lib.hid (fun W : World => show Calls Tryd.prog 13 #[.agg #[.string e.src, .int .i64 e.num, .int .i64 e.tick, .int .i64 e.kind, .string e.person, .string e.item, .int .i64 e.value, .string e.text], .int .i64 1000] W (fun r w' => r = .returned (.bool false) ∧ Ext W w') by rw [← hb]; exact ref_Big e 1000 W hwf)
  have Hsm := Lib.hid (evSm_of hb (by omega))
  have hel := encE_len hmay
  obtain ⟨i0, hi0, hz0, hz1, hz2⟩ := info_parts info_byte
  obtain ⟨S, hS⟩ : ∃ S : ByteArray, S = ⟨(encE e).toArray⟩ := ⟨_, rfl⟩
  have HS := Lib.hid hS
  clear hv hwf hb hs hS
  go_enter Tryd.func8, Tryd.ntmps8
  go_wp2_with (first
    | (go_at_call 12; refine (law_lives _ (Hv.out.ext ((Keeps.refl _ _).alloc _))).mono ?_; rintro _ w1 ⟨rfl, hx1⟩; have hg1 := hx1.blk (blk_new w _); have r0 := blk_cell hg1 0 rfl; have r1 := blk_cell hg1 1 rfl; have r2 := blk_cell hg1 2 rfl; have r3 := blk_cell hg1 3 rfl; have r4 := blk_cell hg1 4 rfl; have r5 := blk_cell hg1 5 rfl; have r6 := blk_cell hg1 6 rfl; have r7 := blk_cell hg1 7 rfl; have Hg1 := Lib.hid hg1; have Hx1 := Lib.hid (Keeps.trans ((Keeps.refl (fun _ => True) w).alloc _) hx1); clear hx1 hg1)
    | (go_at_call 13; (with_reducible refine (GB.out _).mono ?_); rintro _ w2 ⟨rfl, hx2⟩; have hg2 := hx2.blk Hg1.out; clear r0 r1 r2 r3 r4 r5 r6 r7; have r0 := blk_cell hg2 0 rfl; have r1 := blk_cell hg2 1 rfl; have r2 := blk_cell hg2 2 rfl; have r3 := blk_cell hg2 3 rfl; have r4 := blk_cell hg2 4 rfl; have r5 := blk_cell hg2 5 rfl; have r6 := blk_cell hg2 6 rfl; have r7 := blk_cell hg2 7 rfl; have Hg2 := Lib.hid hg2; have Hx2 := Lib.hid (Hx1.out.trans hx2); clear hx2 hg2)
    | (go_at_call 15; refine (ev_Encode_yes e _ Hsm.out (Hv.out.mx.ext Hx2.out) hmay).mono ?_; rintro _ w3 ⟨hx3, A3, c3, m3, rfl, hb3⟩; have hg3 := hx3.blk Hg2.out; clear r0 r1 r2 r3 r4 r5 r6 r7; have r0 := blk_cell hg3 0 rfl; have r1 := blk_cell hg3 1 rfl; have r2 := blk_cell hg3 2 rfl; have r3 := blk_cell hg3 3 rfl; have r4 := blk_cell hg3 4 rfl; have r5 := blk_cell hg3 5 rfl; have r6 := blk_cell hg3 6 rfl; have r7 := blk_cell hg3 7 rfl; have Hx3 := Lib.hid (Hx2.out.trans hx3); have Hg3 := Lib.hid hg3; have Hb3 := Lib.hid (hb3.base_le (Hx2.out.size)); clear hx3 hg3 hb3)
    | (go_at_call 14; refine (ref_May e _ Hsm.out).mono ?_; rw [hmay]; rintro _ X ⟨rfl, hx4⟩; have HX := Lib.hid (Hx3.out.trans hx4); have HgX := Lib.hid (hx4.blk Hg3.out); have HbX := Lib.hid (Hb3.out.ext hx4); clear hx4))
  clear r0 r1 r2 r3 r4 r5 r6 r7
  have d0 := blk_cell HgX.out 0 rfl
  have d1 := blk_cell HgX.out 1 rfl
  have d2 := blk_cell HgX.out 2 rfl
  have d3 := blk_cell HgX.out 3 rfl
  have d4 := blk_cell HgX.out 4 rfl
  have d5 := blk_cell HgX.out 5 rfl
  have d6 := blk_cell HgX.out 6 rfl
  have d7 := blk_cell HgX.out 7 rfl
  have hm3 : m3 = (encE e).length := HbX.out.1.symm
  have k1 := string_of_bts (P := Tryd.prog) X.drew 28 9 5 A3 c3 Tryd.underlying28 Tryd.underlying5 Tryd.underlying9 (HbX.out.ext (Keeps.refl _ X).drew)
  rw [← HS.out] at k1
  have Hm3 := Lib.hid hm3
  clear hm3
  go_cut [48] (fun s48 wc => s48 = .bool false ∧ Ext X wc)
  case first =>
    go_region_with (go_at_call 33; refine (ref_Encode e _ hmay).mono ?_; rintro _ w5 ⟨A5, c5, m5, rfl, hb5, hx5⟩; have hy : Ext X w5 := Keeps.trans (by repeat (first | assumption | with_reducible exact Keeps.refl _ _ | with_reducible refine Keeps.drew ?_ | with_reducible refine Keeps.alloc ?_ _)) hx5; have k2 := string_of_bts (P := Tryd.prog) w5 28 9 5 A3 c3 Tryd.underlying28 Tryd.underlying5 Tryd.underlying9 (HbX.out.ext hy); have k3 := string_of_bts (P := Tryd.prog) w5 28 9 5 A5 c5 Tryd.underlying28 Tryd.underlying5 Tryd.underlying9 hb5; rw [← HS.out] at k2 k3)
    all_goals
      go_wp2_with fail
      go_meet
      exact ⟨rfl, hy⟩
  case rest =>
    obtain ⟨hs48, hxc⟩ := hcut
    subst hs48
    obtain ⟨Y, hY⟩ : ∃ Y, Y = wc := ⟨_, rfl⟩
    rw [← hY] at hxc ⊢
    have HgY := Lib.hid (hxc.blk HgX.out)
    have HbY := Lib.hid (HbX.out.ext hxc)
    have HxY := Lib.hid (HX.out.trans hxc)
    have hszY : w.heap.size ≤ Y.heap.size := HxY.out.size
    have hm4 : m3 ≤ 400 := by rw [Hm3.out]; exact hel.2
    have hm31 : 1 ≤ m3 := by rw [Hm3.out]; exact hel.1
    have HbZ := Lib.hid (show Bts (Y.alloc (.cells #[] 5)) Y.heap.size (.slice (some ⟨Y.heap.size, 0, none⟩) 0 0) 0 [] from Bts.zero_new (blk_new _ _) (Nat.le_refl _))
    clear hY hxc k1 d0 d1 d2 d3 d4 d5 d6 d7 hel
    go_wp2_with (first
      | (at_builtin; refine wpList_append_Bts (base := Y.heap.size) _ rfl (.tmp 50) (.tmp 51) 28 28 rfl 5 i0 Tryd.underlying28 hi0 hz0 hz1 hz2 rfl HbZ.out _ m3 (encE e) rfl ((HbY.out.ext ((Keeps.refl _ _).alloc _)).src Tryd.underlying28) (by omega) (by simp) ?_; intro A6 c6 w6 hb6 hg6 hat6; simp only [Nat.zero_add, List.nil_append] at hb6; have hx6 : Ext Y w6 := Keeps.grown ((Keeps.refl _ _).alloc _) hg6 (fun g hg hl => absurd (HbZ.out.lt g hg).1 (Nat.not_le_of_lt hl)); have Hb6 := Lib.hid hb6; have Hx6 := Lib.hid hx6; have hsz6 : Y.heap.size ≤ w6.heap.size := hx6.size; have Hs6 := Lib.hid (Hs.out.ext (HxY.out.trans hx6)); clear hb6 hg6 hat6 hx6)
      | (at_builtin; refine wpList_append_Bts (base := Y.heap.size) _ rfl (.tmp 52) (.tmp 53) 28 28 rfl 5 i0 Tryd.underlying28 hi0 hz0 hz1 hz2 rfl Hb6.out _ n bt rfl (Hs6.out.byteSrc Tryd.underlying28) (by omega) hsz6 ?_; intro A7 c7 w7 hb7 hg7 hat7; have Hx7 := Lib.hid (show Ext Y w7 from Keeps.grown Hx6.out hg7 (fun g hg hl => absurd (Hb6.out.lt g hg).1 (Nat.not_le_of_lt hl))); have Hb7 := Lib.hid hb7; clear hb7 hg7 hat7))
    obtain ⟨hsl7, hmc7⟩ := Hb7.out.sl
    refine (ev_Decode_enc e hmay bt m3 Hm3.out A7 (m3 + n) c7 _ w7 hsl7 (fun _ h => h) (by omega) hmc7 (Hv.out.mx.ext (HxY.out.trans Hx7.out))).mono ?_
    rintro _ w8 ⟨rfl, hx8⟩
    have Hx8 := Lib.hid (Hx7.out.trans hx8)
    have hg8 := Ext.blk Hx8.out HgY.out
    have hg8l : w.heap.size < w8.heap.size := (Array.getElem?_eq_some_iff.1 hg8).1
    have d0 := blk_cell hg8 0 rfl
    have d1 := blk_cell hg8 1 rfl
    have d2 := blk_cell hg8 2 rfl
    have d3 := blk_cell hg8 3 rfl
    have d4 := blk_cell hg8 4 rfl
    have d5 := blk_cell hg8 5 rfl
    have d6 := blk_cell hg8 6 rfl
    have d7 := blk_cell hg8 7 rfl
    have HbE := Lib.hid (HbY.out.ext Hx8.out)
    clear hsl7 hmc7 hx8 hg8 Hb7 Hb6 Hs6 HbZ
    by_cases hc0 : cut < 0
    · have c1 : decide (cut < 0) = true := by simpa using hc0
      go_wp2_with fail
      go_ret
      exact ⟨rfl, (HxY.out.trans Hx8.out).alloc _⟩
    by_cases hcm : (m3 : Int) ≤ cut
    · have c1 : decide (cut < 0) = false := by simpa using hc0
      have c2 : decide ((m3 : Int) ≤ cut) = true := by simpa using hcm
      go_wp2_with fail
      go_ret
      exact ⟨rfl, (HxY.out.trans Hx8.out).alloc _⟩
    obtain ⟨q, rfl⟩ : ∃ q : Nat, cut = q := ⟨cut.toNat, by omega⟩
    have hqm : q < m3 := by omega
    have c0 : (0 : Int) ≤ (q : Int) := by omega
    have c1 : decide ((q : Int) < 0) = false := by simp
    have c2 : decide ((m3 : Int) ≤ (q : Int)) = false := by simp; omega
    have c4 : decide (m3 ≤ q) = false := by simp; omega
    obtain ⟨hslE, hmcE⟩ := HbE.out.sl
    have c5 : (q : Int) ≤ (c3 : Int) := by omega
    have HsE := Lib.hid ((hslE.to_ (k := q) (by omega)).alloc (.cells #[.string e.src, .int .i64 e.num, .int .i64 e.tick, .int .i64 e.kind, .string e.person, .string e.item, .int .i64 e.value, .string e.text] 24))
    have Hqe := Lib.hid (show q < (encE e).length by rw [← Hm3.out]; exact hqm)
    have HX9 := Lib.hid (show Ext w (w8.alloc (.cells #[.string e.src, .int .i64 e.num, .int .i64 e.tick, .int .i64 e.kind, .string e.person, .string e.item, .int .i64 e.value, .string e.text] 24)) from (HxY.out.trans Hx8.out).alloc _)
    clear hc0 hcm hslE
    go_wp2_with fail
    refine (ev_Decode_cut e hmay q Hqe.out A3 q c3 _ _ HsE.out (fun k hk => Nat.lt_of_lt_of_le hk (by simp)) (by omega) (by omega) (Hv.out.mx.ext HX9.out)).mono ?_
    rintro _ w9 ⟨rfl, hx9⟩
    have Hx9 := Lib.hid (HX9.out.trans hx9)
    clear hx9 d0 d1 d2 d3 d4 d5 d6 d7
    go_wp2_with fail
    go_ret
    exact ⟨rfl, Hx9.out.alloc _⟩
theorem law_Bytes (e : Ev) (A : Option Addr) (n c : Nat) (bt : List UInt8) (cut : Int) (ok : Nat → Prop) (w : World) (hs : Sl byteR ok w A n bt) (hn : n ≤ 140737488355328) (hwf : EvWf e) (hv : Vars w) :
    Calls Tryd.prog 8 #[.agg #[.string e.src, .int .i64 e.num, .int .i64 e.tick, .int .i64 e.kind, .string e.person, .string e.item, .int .i64 e.value, .string e.text], .slice A n c, .int .i64 cut] w fun r w' => r = .returned (.bool true) ∧ Ext w w' := by
  cases hb : bigE e 1000
  · by_cases hn1 : 100 < n
    · exact law_Bytes_a e A n c cut w hwf hn hv (.inr hn1)
    · cases hmay : mayE e
      · exact law_Bytes_no e A n c cut w hwf hv hb hn1 hmay
      · exact law_Bytes_yes e A n c bt cut ok w hs hwf hv hb hn1 hmay
  · exact law_Bytes_a e A n c cut w hwf hn hv (.inl hb)
end Go.Proofs.YtihdeidaekheoaaDoor
