/-
  What is proved here: the law EventRows returns true, whatever the events, and leaves old memory as it was. Conditions: no text is longer than a text can be; the library's variables, and the names of the kinds, hold what their text lays.
-/
import Derived.Test.YtihdeidaekheoaaDoorEvLives
import Derived.Test.YtihdeidaekheoaaDoorEvBig
import Derived.Test.YtihdeidaekheoaaDoorEvDecP
import Derived.Laws.StructEq
namespace Go.Proofs.YtihdeidaekheoaaDoor
open Go Go.RowKit Go.Proofs
attribute [local go_sem ↓] Go.wp_at_zero Go.wp_at_succ

set_option maxRecDepth 100000 in
set_option maxHeartbeats 2000000 in
theorem ref_All (A : Option Addr) (n c : Nat) (l : List Ev) (ok : Nat → Prop) (w : World) (hs : Sl evR ok w A n l) (hn : n ≤ maxLen) (hsm : ∀ e ∈ l, EvSm e) :
    Calls Tryd.prog 37 #[.slice A n c] w fun r w' => r = .returned (.bool (l.all mayE)) ∧ Ext w w' := by
  have Hs := Lib.hid hs
  have Hl := Lib.hid hs.1
  have Hsm := Lib.hid hsm
  unfold maxLen at hn
  clear hs hsm
  go_enter Tryd.func37, Tryd.ntmps37
  go_wp2_with fail
  go_loopw [3] (fun i wr => ∃ k : Nat, k ≤ n ∧ i = .int .i64 k ∧ (l.take k).all mayE = true ∧ Ext w wr) (fun i _ => n - (intOf i).toNat)
  case atStart => exact ⟨0, Nat.zero_le _, rfl, by simp, Keeps.refl _ _⟩
  case round =>
    obtain ⟨k, hk, rfl, hall, hx⟩ := hrel
    have Hall := Lib.hid hall
    have Hx := Lib.hid hx
    clear hall hx
    by_cases hlt : k < n
    · obtain ⟨b, o, e, rfl, hb, _, he, d0, d1, d2, d3, d4, d5, d6, d7⟩ := (Hs.out.ext Hx.out).ev hlt
      have He := Lib.hid he
      have Hw := Lib.hid (Hsm.out e (List.mem_of_getElem? he))
      have i0 : (0 : Int) ≤ (k : Int) := by omega
      have i1 : (k : Int) < (n : Int) := by omega
      clear he
      cases hm : mayE e
      · have Hf := Lib.hid (show l.all mayE = false by rw [Bool.eq_false_iff]; intro h; have := List.all_eq_true.1 h e (List.mem_of_getElem? He.out); rw [hm] at this; cases this)
        go_wp2_with (go_at_call 14; refine (ref_May e _ Hw.out).mono ?_; rw [hm]; rintro _ w2 ⟨rfl, hx2⟩; have Hx2 := Lib.hid (Hx.out.trans hx2); clear hx2)
        go_ret
        exact ⟨by rw [Hf.out]; rfl, Hx2.out⟩
      · have Hst := Lib.hid (show (l.take (k + 1)).all mayE = true by rw [List.take_add_one, He.out, List.all_append, Hall.out]; simp [hm])
        go_wp2_with (go_at_call 14; refine (ref_May e _ Hw.out).mono ?_; rw [hm]; rintro _ w2 ⟨rfl, hx2⟩; have Hx2 := Lib.hid (Hx.out.trans hx2); clear hx2)
        go_roundw
        case rel => exact ⟨k + 1, by omega, by go_num, Hst.out, Hx2.out⟩
        case measure => simp [intOf]; omega
    · obtain rfl : k = n := by omega
      have Hf := Lib.hid (show l.all mayE = true by have := Hall.out; rw [List.take_of_length_le (Nat.le_of_eq Hl.out)] at this; exact this)
      go_wp2_with fail
      go_ret
      exact ⟨by rw [Hf.out]; rfl, Hx.out⟩

theorem Ext.drewN {w w' : World} (h : Ext w w') (n : Nat) : Ext w (w'.drewN n) := Keeps.drewN h n
theorem any_small {l : List Ev} {m : Nat} (h : l.any (fun e => bigE e m) = false) : ∀ e ∈ l, bigE e m = false := by
  intro e he
  cases hb : bigE e m
  · rfl
  · have h2 : l.any (fun e => bigE e m) = true := List.any_eq_true.2 ⟨e, he, hb⟩
    rw [h] at h2; cases h2
/-! ### bytes, one behind the other -/
def encs (l : List Ev) : List UInt8 := (l.map encE).flatten
theorem encs_snoc {l : List Ev} {k : Nat} {e : Ev} (h : l[k]? = some e) : encs (l.take (k + 1)) = encs (l.take k) ++ encE e := by
  unfold encs; rw [List.take_add_one, h]; simp
theorem encs_drop {l : List Ev} {k : Nat} {e : Ev} (h : l[k]? = some e) : encs (l.drop k) = encE e ++ encs (l.drop (k + 1)) := by
  have hk := (List.getElem?_eq_some_iff.1 h).1
  unfold encs
  rw [List.drop_eq_getElem_cons hk, (List.getElem?_eq_some_iff.1 h).2]; simp
theorem encE_len {e : Ev} (h : mayE e = true) : 1 ≤ (encE e).length ∧ (encE e).length ≤ 400 := by
  have hF := mayF h
  have z1 := (nameB_size hF.src).2
  have z2 := hF.psize
  have z3 := hF.isize
  have z4 := hF.tsize
  have l2 := numL_6 (n := e.num.toNat) (by have := hF.num1; omega)
  have l3 := numL_6 (n := e.tick.toNat) (by have := hF.tick1; omega)
  have l6 := numL_6 (n := e.value.toNat) (by have := hF.value1; omega)
  unfold encE
  simp only [List.length_append, wordL_len, List.length_cons, List.length_nil]
  omega
theorem encs_len {l : List Ev} (h : ∀ e ∈ l, mayE e = true) : (encs l).length ≤ l.length * 400 := by
  unfold encs
  induction l with
  | nil => simp
  | cons a l ih =>
    have h1 := encE_len (h a (by simp))
    have h2 := ih (fun e he => h e (by simp [he]))
    simp only [List.map_cons, List.flatten_cons, List.length_append, List.length_cons, Nat.succ_mul]; omega
theorem Bts.zero_new {w : World} {g base : Nat} {t : TypeId} (hg : w.heap[g]? = some (.cells #[] t)) (hb : base ≤ g) : Bts w base (.slice (some ⟨g, 0, none⟩) 0 0) 0 [] :=
  ⟨rfl, .inr ⟨g, 0, rfl, hb, Nat.le_refl _, Nat.zero_le _, (Array.getElem?_eq_some_iff.1 hg).1, fun j hj => absurd hj (by omega), fun j u hu => by simp at hu⟩⟩
theorem Bts.sl {w : World} {base : Nat} {A : Option Addr} {n c : Nat} {bs : List UInt8} (h : Bts w base (.slice A n c) n bs) : Sl byteR (fun k => k < w.heap.size) w A n bs ∧ n ≤ c := by
  rcases h.2 with ⟨hv, h0⟩ | ⟨g, cap, hv, hb, hnc, _, hg, _, hx⟩
  · subst h0
    injection hv with h1 _ h3
    subst h1 h3
    have : bs = [] := List.eq_nil_of_length_eq_zero h.1
    subst this
    exact ⟨Sl.nil_, Nat.le_refl _⟩
  · injection hv with h1 _ h3
    subst h1 h3
    refine ⟨⟨h.1, fun _ => ⟨g, 0, rfl, hg, hg, fun k a ha => ⟨[byteV a], rfl, fun j u hu => ?_⟩⟩⟩, hnc⟩
    match j, hu with
    | 0, hu =>
      simp at hu; subst hu
      have := hx k (byteV a) (by rw [List.getElem?_map, ha]; rfl)
      simpa [byteR] using this

set_option maxRecDepth 100000 in
set_option maxHeartbeats 8000000 in
theorem law_Rows (A : Option Addr) (n c : Nat) (l : List Ev) (ok : Nat → Prop) (w : World) (hs : Sl evR ok w A n l) (hn : n ≤ 140737488355328) (hwf : ∀ e ∈ l, EvWf e) (hv : Vars w) :
    Calls Tryd.prog 10 #[.slice A n c] w fun r w' => r = .returned (.bool true) ∧ Ext w w' := by
  have Hs := Lib.hid hs
  have Hl := Lib.hid hs.1
  have Hv := Lib.hid hv
  have hnm : n ≤ maxLen := by unfold maxLen; omega
  by_cases h20 : 20 < n
  · clear hs hv hwf
    go_enter Tryd.func10, Tryd.ntmps10
    go_wp2_with (go_at_call 12; refine (law_lives _ Hv.out).mono ?_; rintro _ w1 ⟨rfl, hx1⟩; have Hx1 := Lib.hid hx1; clear hx1)
    go_ret
    exact ⟨rfl, Hx1.out⟩
  cases hbig : l.any (fun e => bigE e 300)
  case true =>
    have GS := Lib.hid (fun (W : World) (h : Sl evR ok W A n l) => show Calls Tryd.prog 36 #[.slice A n c, .int .i64 300] W (fun r w' => r = .returned (.bool true) ∧ Ext W w') by rw [← hbig]; exact ref_Some A n c l 300 ok W h hnm hwf)
    clear hs hv hwf hbig
    go_enter Tryd.func10, Tryd.ntmps10
    go_wp2_with (first | (go_at_call 12; refine (law_lives _ Hv.out).mono ?_; rintro _ w1 ⟨rfl, hx1⟩; have Hx1 := Lib.hid hx1; clear hx1) | (go_at_call 36; refine (GS.out _ (Hs.out.ext Hx1.out)).mono ?_; rintro _ w2 ⟨rfl, hx2⟩; have Hx2 := Lib.hid (Hx1.out.trans hx2); clear hx2))
    go_ret
    exact ⟨rfl, Hx2.out⟩
  have GS := Lib.hid (fun (W : World) (h : Sl evR ok W A n l) => show Calls Tryd.prog 36 #[.slice A n c, .int .i64 300] W (fun r w' => r = .returned (.bool false) ∧ Ext W w') by rw [← hbig]; exact ref_Some A n c l 300 ok W h hnm hwf)
  have hsm : ∀ e ∈ l, EvSm e := fun e he => evSm_of (any_small hbig e he) (by omega)
  cases hall : l.all mayE
  case false =>
    have GA := Lib.hid (fun (W : World) (h : Sl evR ok W A n l) => show Calls Tryd.prog 37 #[.slice A n c] W (fun r w' => r = .returned (.bool false) ∧ Ext W w') by rw [← hall]; exact ref_All A n c l ok W h hnm hsm)
    clear hs hv hwf hbig hsm hall
    go_enter Tryd.func10, Tryd.ntmps10
    go_wp2_with (first | (go_at_call 12; refine (law_lives _ Hv.out).mono ?_; rintro _ w1 ⟨rfl, hx1⟩; have Hx1 := Lib.hid hx1; clear hx1) | (go_at_call 36; refine (GS.out _ (Hs.out.ext Hx1.out)).mono ?_; rintro _ w2 ⟨rfl, hx2⟩; have Hx2 := Lib.hid (Hx1.out.trans hx2); clear hx2) | (go_at_call 37; refine (GA.out _ (Hs.out.ext Hx2.out)).mono ?_; rintro _ w3 ⟨rfl, hx3⟩; have Hx3 := Lib.hid (Hx2.out.trans hx3); clear hx3))
    go_ret
    exact ⟨rfl, Hx3.out⟩
  have GA := Lib.hid (fun (W : World) (h : Sl evR ok W A n l) => show Calls Tryd.prog 37 #[.slice A n c] W (fun r w' => r = .returned (.bool true) ∧ Ext W w') by rw [← hall]; exact ref_All A n c l ok W h hnm hsm)
  have Hsm := Lib.hid hsm
  have Hall := Lib.hid (List.all_eq_true.1 hall)
  obtain ⟨i0', hi0, hz0, hz1, hz2⟩ := info_parts info_byte
  clear hs hv hwf hbig hsm hall
  go_enter Tryd.func10, Tryd.ntmps10
  go_wp2_with (first | (go_at_call 12; refine (law_lives _ Hv.out).mono ?_; rintro _ w1 ⟨rfl, hx1⟩; have Hx1 := Lib.hid hx1; clear hx1) | (go_at_call 36; refine (GS.out _ (Hs.out.ext Hx1.out)).mono ?_; rintro _ w2 ⟨rfl, hx2⟩; have Hx2 := Lib.hid (Hx1.out.trans hx2); clear hx2) | (go_at_call 37; refine (GA.out _ (Hs.out.ext Hx2.out)).mono ?_; rintro _ w3 ⟨rfl, hx3⟩; have Hx3 := Lib.hid (Hx2.out.trans hx3); clear hx3))
  have hsz3 : w.heap.size ≤ w3.heap.size := Hx3.out.size
  go_loopw [3, 4] (fun v i wr => ∃ (k m : Nat) (B : Option Addr) (cb : Nat), k ≤ n ∧ i = .int .i64 k ∧ v = .slice B m cb ∧ m ≤ 400 * k ∧ Bts wr w.heap.size (.slice B m cb) m (encs (l.take k)) ∧ Ext w wr) (fun _ i _ => n - (intOf i).toNat)
  case atStart => exact ⟨0, 0, _, 0, Nat.zero_le _, rfl, rfl, by omega, by simpa [encs] using Bts.zero_new (blk_new _ _) (by omega), Hx3.out.alloc _⟩
  case round =>
    obtain ⟨k, m, B, cb, hk, rfl, rfl, hmk, hb, hx⟩ := hrel
    have Hb := Lib.hid hb
    have Hx := Lib.hid hx
    have hszr := hx.size
    clear hb hx
    by_cases hlt : k < n
    · obtain ⟨b, o, e, rfl, hbl, _, he, d0, d1, d2, d3, d4, d5, d6, d7⟩ := (Hs.out.ext Hx.out).ev hlt
      have He := Lib.hid he
      have Hse := Lib.hid (Hsm.out e (List.mem_of_getElem? he))
      have hme := Hall.out e (List.mem_of_getElem? he)
      have Hme := Lib.hid hme
      have hel := (encE_len hme).2
      have i0 : (0 : Int) ≤ (k : Int) := by omega
      have i1 : (k : Int) < (n : Int) := by omega
      have Hst := Lib.hid (encs_snoc he)
      clear he hme
      go_wp2_with (first
        | (go_at_call 15; refine (ev_Encode_yes e _ Hse.out (Hv.out.mx.ext Hx.out) Hme.out).mono ?_; rintro _ w4 ⟨hx4, A4, c4, m4, rfl, hb4⟩; have hm4 : m4 ≤ 400 := Nat.le_trans (Nat.le_of_eq hb4.1.symm) hel; have Hx4 := Lib.hid hx4; have Hb4 := Lib.hid hb4; have hsz4 := hx4.size; clear hx4 hb4)
        | (at_builtin; refine wpList_append_Bts (base := w.heap.size) _ rfl (.tmp 42) (.tmp 43) 28 28 rfl 5 i0' Tryd.underlying28 hi0 hz0 hz1 hz2 rfl (Hb.out.ext Hx4.out) _ m4 (encE e) rfl (Hb4.out.src Tryd.underlying28) (by omega) (by omega) ?_; intro A5 c5 w5 hb5 hg5 hat5; have Hx5 := Lib.hid (show Ext w w5 from Keeps.grown (Hx.out.trans Hx4.out) hg5 (fun g hg hl => by have := (Hb.out.lt g hg).1; omega)); have Hb5 := Lib.hid hb5; clear hb5 hg5 hat5))
      go_roundw
      case rel => exact ⟨k + 1, m + m4, A5, c5, by omega, by go_num, rfl, by omega, by rw [Hst.out]; exact Hb5.out, Hx5.out⟩
      case measure => simp [intOf]; omega
    · obtain rfl : k = n := by omega
      have hb9 := Hb.out
      rw [List.take_of_length_le (Nat.le_of_eq Hl.out)] at hb9
      obtain ⟨hsl, hmc⟩ := hb9.sl
      have Hsl := Lib.hid hsl
      obtain ⟨Z, hZ⟩ : ∃ Z, Z = wr := ⟨_, rfl⟩
      rw [← hZ] at Hsl Hx hszr ⊢
      clear hb9 hsl hZ Hb
      go_wp2_with fail
      go_loopw [3, 7] (fun v i wr => ∃ (j m : Nat) (B : Option Addr) (cb : Nat), j ≤ k ∧ i = .int .i64 j ∧ v = .slice B m cb ∧ m ≤ 8000 ∧ m ≤ cb ∧ Sl byteR (fun q => q < Z.heap.size) wr B m (encs (l.drop j)) ∧ Ext Z wr) (fun _ i _ => k - (intOf i).toNat)
      case atStart => exact ⟨0, m, B, cb, Nat.zero_le _, rfl, rfl, by omega, hmc, by simpa using Hsl.out, Keeps.refl _ _⟩
      case round =>
        obtain ⟨j, m, B, cb, hj, rfl, rfl, hm8, hmcb, hsb, hxz⟩ := hrel
        have Hsb := Lib.hid hsb
        have Hsbl := Lib.hid hsb.1
        have Hxz := Lib.hid hxz
        have hszz := hxz.size
        clear hsb hxz
        by_cases hjl : j < k
        · obtain ⟨b, o, e, rfl, hbl, _, he, d0, d1, d2, d3, d4, d5, d6, d7⟩ := (Hs.out.ext (Hx.out.trans Hxz.out)).ev hjl
          have hme := Hall.out e (List.mem_of_getElem? he)
          have hel := encE_len hme
          have Hd := Lib.hid (encs_drop he)
          have Hdc := Lib.hid (show decE (encs (l.drop j)) = (e, ((encE e).length : Int), 0) by rw [encs_drop he]; exact decE_enc hme _)
          have hlen : (encE e).length ≤ m := by have := Hsbl.out; rw [encs_drop he, List.length_append] at this; omega
          obtain ⟨p, hp⟩ : ∃ p, p = (encE e).length := ⟨_, rfl⟩
          rw [← hp] at hel hlen Hdc
          have Hp := Lib.hid hp
          have i0 : (0 : Int) ≤ (j : Int) := by omega
          have i1 : (j : Int) < (k : Int) := by omega
          have GD := Lib.hid (show Calls Tryd.prog 34 #[.slice B m cb] wr (fun r w' => r = .returned (.tuple #[.agg #[.string e.src, .int .i64 e.num, .int .i64 e.tick, .int .i64 e.kind, .string e.person, .string e.item, .int .i64 e.value, .string e.text], .int .i64 (p : Int), .int .i64 0]) ∧ Ext wr w') by have h9 := ev_Decode B m cb (encs (l.drop j)) _ wr Hsb.out (fun q hq => by omega) (by omega) hmcb (Hv.out.mx.ext (Hx.out.trans Hxz.out)); unfold DecPost at h9; rw [Hdc.out] at h9; exact h9)
          clear he hme hp
          have hp1 : (1 : Int) ≤ (p : Int) := by omega
          have hp2 : (p : Int) ≤ (m : Int) := by omega
          have hp0 : (0 : Int) ≤ (p : Int) := by omega
          have hpl1 : decide ((p : Int) < 1) = false := by simp; omega
          have hpl2 : decide ((m : Int) < (p : Int)) = false := by simp; omega
          have hpl3 : decide (m < p) = false := by simp; omega
          have hpl4 : decide (p < 1) = false := by simp; omega
          go_wp2_with fail
          refine GD.out.mono ?_
          rintro _ w6 ⟨rfl, hx6⟩
          have Hx6 := Lib.hid hx6
          have hb6 : b < w6.heap.size := Nat.lt_of_lt_of_le hbl hx6.size
          have e0 := (hx6.cell (p := ⟨b, o + j * 8, none⟩) hbl trivial).trans d0
          have e1 := (hx6.cell (p := ⟨b, o + j * 8 + 1, none⟩) hbl trivial).trans d1
          have e2 := (hx6.cell (p := ⟨b, o + j * 8 + 2, none⟩) hbl trivial).trans d2
          have e3 := (hx6.cell (p := ⟨b, o + j * 8 + 3, none⟩) hbl trivial).trans d3
          have e4 := (hx6.cell (p := ⟨b, o + j * 8 + 4, none⟩) hbl trivial).trans d4
          have e5 := (hx6.cell (p := ⟨b, o + j * 8 + 5, none⟩) hbl trivial).trans d5
          have e6 := (hx6.cell (p := ⟨b, o + j * 8 + 6, none⟩) hbl trivial).trans d6
          have e7 := (hx6.cell (p := ⟨b, o + j * 8 + 7, none⟩) hbl trivial).trans d7
          clear d0 d1 d2 d3 d4 d5 d6 d7 hx6
          go_wp2_with fail
          go_quiet (fail)
          have Hcut := Lib.hid ((Hsb.out.cut (k := p) (cap := cb) hlen hmcb).ext (Ext.drewN (Keeps.alloc Hx6.out (.cells #[.string e.src, .int .i64 e.num, .int .i64 e.tick, .int .i64 e.kind, .string e.person, .string e.item, .int .i64 e.value, .string e.text] 24)) nq))
          have hdr : (encs (l.drop j)).drop p = encs (l.drop (j + 1)) := by rw [Hd.out, Hp.out, List.drop_left]
          rw [hdr] at Hcut
          have HxF := Lib.hid (show Ext Z ((w6.alloc (.cells #[.string e.src, .int .i64 e.num, .int .i64 e.tick, .int .i64 e.kind, .string e.person, .string e.item, .int .i64 e.value, .string e.text] 24)).drewN nq) from Keeps.drewN (Keeps.alloc (Hxz.out.trans Hx6.out) _) nq)
          clear hdr
          by_cases hcb : cb = p
          · rw [if_pos hcb] at Hcut
            go_wp2_with fail
            go_roundw
            case rel => exact ⟨j + 1, m - p, B, cb - p, by omega, by go_num, by simp; omega, by omega, by omega, Hcut.out, HxF.out⟩
            case measure => simp [intOf]; omega
          · rw [if_neg hcb] at Hcut
            go_wp2_with fail
            go_roundw
            case rel => exact ⟨j + 1, m - p, B.map (·.add (p * 1)), cb - p, by omega, by go_num, by simp, by omega, by omega, Hcut.out, HxF.out⟩
            case measure => simp [intOf]; omega
        · obtain rfl : j = k := by omega
          have hm0 : m = 0 := by
            have := Hsbl.out
            rw [List.drop_eq_nil_of_le (Nat.le_of_eq Hl.out)] at this
            simpa [encs] using this.symm
          subst hm0
          go_wp2_with fail
          go_ret
          exact ⟨rfl, Hx.out.trans Hxz.out⟩
end Go.Proofs.YtihdeidaekheoaaDoor
