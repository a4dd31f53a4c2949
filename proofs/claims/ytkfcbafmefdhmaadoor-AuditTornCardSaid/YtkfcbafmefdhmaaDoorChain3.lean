/-
  What is proved here: what Add does with an entry that may be. Conditions: where they are named.
-/
import Derived.Test.YtkfcbafmefdhmaaDoorChain1
import Derived.Deep.DeepCutAuto
import Derived.Deep.RegionLaw
import Derived.Deep.RegionWith
namespace Go.Proofs.YtkfcbafmefdhmaaDoor
open Go Go.RowKit Go.Proofs
attribute [local go_sem ↓] Go.wp_at_zero Go.wp_at_succ

theorem mayE_parts {e : Ent} (h : mayE e = true) : 0 ≤ e.off ∧ e.off ≤ 1048576 ∧ 0 ≤ e.now ∧ e.now ≤ 1099511627776 ∧ nameB e.person = true ∧ e.items.length ≤ 1000 ∧ e.items.all nameB = true := by
  simp only [mayE, Bool.and_eq_true, decide_eq_true_eq] at h
  obtain ⟨⟨⟨⟨⟨⟨h1, h2⟩, h3⟩, h4⟩, h5⟩, h6⟩, h7⟩ := h
  exact ⟨h1, h2, h3, h4, h5, h6, h7⟩
theorem nameB_size {s : ByteArray} (h : nameB s = true) : s.size ≤ 24 := by
  simp only [nameB, Bool.and_eq_true, decide_eq_true_eq] at h; omega

/-- A chain whose entries' texts lie where ex says. -/
structure ChainX (ex : Nat → Prop) (w : World) (b : Nat) (seed : Int) (es : List Ent) (v : Value) : Prop where
  blk : w.heap[b]? = some (.cells #[.int .u64 seed, v] 55)
  own : Own entR 33 (fun k => b < k ∧ ex k) w (b + 1) v es.length es
theorem ChainX.at_ {ex : Nat → Prop} {w : World} {b : Nat} {seed : Int} {es : List Ent} {v : Value} (h : ChainX ex w b seed es v) : ChainAt w b seed es v := ⟨h.blk, h.own.mono fun _ _ h => h.1⟩
theorem ChainX.of {w : World} {b : Nat} {seed : Int} {es : List Ent} {v : Value} (h : ChainAt w b seed es v) : ChainX (fun _ => True) w b seed es v := ⟨h.blk, h.own.mono fun _ _ h => ⟨h, trivial⟩⟩
theorem ChainX.ext {ex : Nat → Prop} {w w' : World} {b : Nat} {seed : Int} {es : List Ent} {v : Value} (h : ChainX ex w b seed es v) (hx : Ext w w') : ChainX ex w' b seed es v := ⟨hx.blk h.blk, h.own.ext hx⟩
theorem ChainX.mono {ex ex' : Nat → Prop} {w : World} {b : Nat} {seed : Int} {es : List Ent} {v : Value} (h : ChainX ex w b seed es v) (hm : ∀ k, k < w.heap.size → ex k → ex' k) : ChainX ex' w b seed es v := ⟨h.blk, h.own.mono fun k hk h => ⟨h.1, hm k hk h.2⟩⟩

theorem chain_after {ex : Nat → Prop} {w w' : World} {b g : Nat} {seed : Int} {es : List Ent} {v : Value} (hk : Keeps (fun k => k ≠ g) w w') (hb : w.heap[b]? = some (.cells #[.int .u64 seed, v] 55)) (hbg : b ≠ g)
    (ho : Own entR 33 (fun k => (b < k ∧ ex k) ∧ k ≠ g) w (b + 1) v es.length es) (hr : ∀ k, v.ownBlock = some k → k ≠ g) : ChainX ex w' b seed es v :=
  ⟨hk.blk hb hbg, (ho.keep (hk.mono (fun _ _ h => h.1.2)) (fun k hv => hk.block k (ho.lt k hv).2 (hr k hv))).mono (fun _ _ h => h.1)⟩

set_option maxRecDepth 100000 in
set_option maxHeartbeats 4000000 in
theorem chain_Add_yesX (ex : Nat → Prop) (b : Nat) (seed : Int) (es : List Ent) (v : Value) (off now : Int) (person : ByteArray) (items : List ByteArray) (A : Option Addr) (c : Nat) (ok : Nat → Prop) (w : World) (hch : ChainX ex w b seed es v) (hex : ∀ k, w.heap.size ≤ k → ex k) (hes : es.length ≤ 100000)
    (hs : Sl strR ok w A items.length items) (hmay : mayE (⟨off, now, person, items, 0⟩ : Ent) = true) (hpow : Pow w) :
    Calls Tryd.prog 13 #[.pointer (some ⟨b, 0, none⟩), .int .i64 off, .int .i64 now, .string person, .slice A items.length c] w fun r w' => ∃ A' c' v', r = .returned (.agg #[.int .i64 off, .int .i64 now, .string person, .slice A' items.length c', .int .u64 (sumE (aheadOf seed es) (⟨off, now, person, items, 0⟩ : Ent))]) ∧
      Sl strR (fun k => w.heap.size ≤ k) w' A' items.length items ∧ items.length ≤ c' ∧ ChainX ex w' b seed (es ++ [(⟨off, now, person, items, sumE (aheadOf seed es) ⟨off, now, person, items, 0⟩⟩ : Ent)]) v' ∧ Keeps (fun k => k ≠ b ∧ v.ownBlock ≠ some k) w w' ∧ (v'.ownBlock = v.ownBlock ∨ ∀ g, v'.ownBlock = some g → w.heap.size ≤ g) := by
  obtain ⟨m1, m2, m3, m4, m5, m6, m7⟩ := mayE_parts hmay
  simp only at m1 m2 m3 m4 m5 m6 m7
  have hp : person.size < maxLen := by have := nameB_size m5; unfold maxLen; omega
  have hi : ∀ s ∈ items, s.size < maxLen := fun s hs => by have := nameB_size (List.all_eq_true.1 m7 s hs); unfold maxLen; omega
  have Hi := Lib.hid hi
  have Hs := Lib.hid hs
  have Hm := Lib.hid hmay
  have Hch := Lib.hid hch
  have Hex := Lib.hid hex
  have Hpow := Lib.hid hpow
  clear hs hmay hch hpow hi m5 m7 hex
  go_enter Tryd.func13, Tryd.ntmps13
  go_wp2_with fail
  refine (aud_own (⟨off, now, person, items, 0⟩ : Ent) A c ok _ (Hs.out.alloc _) (by show items.length ≤ _; omega)).mono ?_
  rintro _ w1 ⟨A1, c1, rfl, hc1, hs1, hx1⟩
  have g0 := hx1.blk (blk_new w _)
  have hlt : w.heap.size < w1.heap.size := (Array.getElem?_eq_some_iff.1 g0).1
  have Hg0 := Lib.hid g0
  have Hx1 := Lib.hid hx1
  have Hs1 := Lib.hid hs1
  clear hx1 hs1 g0
  simp only at hc1
  go_wp2_with fail
  refine (aud_may (⟨off, now, person, items, 0⟩ : Ent) A1 c1 _ _ (Hs1.out.alloc _) (by show items.length ≤ _; unfold maxLen; omega) (Nat.le_of_lt hp) (fun s hs => Nat.le_of_lt (Hi.out s hs))).mono ?_
  rintro _ w2 ⟨rfl, hx2⟩
  rw [Hm.out]
  have gr := hx2.blk (blk_old Hg0.out _)
  have ge := hx2.blk (blk_new w1 (.cells #[.int .i64 off, .int .i64 now, .string person, .slice A1 items.length c1, .int .u64 0] 33))
  have hxw : Ext w w2 := Keeps.trans ((Keeps.trans ((Keeps.refl _ w).alloc _) Hx1.out).alloc _) hx2
  have Hs2 := Lib.hid (Keeps.trans ((Keeps.refl (fun _ => True) w1).alloc (.cells #[.int .i64 off, .int .i64 now, .string person, .slice A1 items.length c1, .int .u64 0] 33)) hx2)
  have Hgr := Lib.hid gr
  have Hge := Lib.hid ge
  have Hxw := Lib.hid hxw
  clear hx2 gr ge hxw
  go_upto_region 4 with fail
  go_cut [] (fun wx => wx.heap[w1.heap.size]? = some (.cells #[.int .i64 off, .int .i64 now, .string person, .slice A1 items.length c1, .int .u64 (sumE (aheadOf seed es) ⟨off, now, person, items, 0⟩)] 33) ∧ Keeps (fun k => k ≠ w1.heap.size) w2 wx)
  case first =>
    have e0 := blk_cell Hge.out 0 rfl
    have e1 := blk_cell Hge.out 1 rfl
    have e2 := blk_cell Hge.out 2 rfl
    have e3 := blk_cell Hge.out 3 rfl
    have e4 := blk_cell Hge.out 4 rfl
    go_region_with (first
      | (go_at_call 30; refine (chain_ahead b seed es v _ (by exact (Hch.out.at_.ext Hxw.out).ext (by repeat (first | with_reducible exact Keeps.refl _ _ | with_reducible refine Keeps.drew ?_ | with_reducible refine Keeps.drewN ?_ _ | with_reducible refine Keeps.alloc ?_ _))) (by omega)).mono ?_; rintro _ w3 ⟨rfl, rfl⟩)
      | (go_at_call 29; refine (aud_sum (aheadOf seed es) (⟨off, now, person, items, 0⟩ : Ent) A1 c1 _ _ (by exact (Hs1.out.ext Hs2.out).ext (by repeat (first | with_reducible exact Keeps.refl _ _ | with_reducible refine Keeps.drew ?_ | with_reducible refine Keeps.drewN ?_ _ | with_reducible refine Keeps.alloc ?_ _))) m6 hp Hi.out m1 (by show off ≤ _; omega) m3 m4 (by exact (Hpow.out.ext Hxw.out).ext (by repeat (first | with_reducible exact Keeps.refl _ _ | with_reducible refine Keeps.drew ?_ | with_reducible refine Keeps.drewN ?_ _ | with_reducible refine Keeps.alloc ?_ _)))).mono ?_; rintro _ w3 ⟨rfl, hx3⟩; have h3 := hx3.blk (g := w1.heap.size) (by exact Hge.out); have e30 := blk_cell h3 4 rfl; have f30 := blk_free h3))
    all_goals
      go_wp2_with fail
      go_meet
      refine ⟨by have := blk_set h3 4 (.int .u64 (sumE (aheadOf seed es) (⟨off, now, person, items, 0⟩ : Ent))); simpa using this, ?_⟩
      exact Keeps.setCell (Keeps.trans ((Keeps.refl _ _).drew) (hx3.keeps _)) (fun _ h => h rfl) _
  case rest =>
    obtain ⟨hge, hkx⟩ := hcut
    obtain ⟨wx, hwx⟩ : ∃ wx, wx = wc := ⟨_, rfl⟩
    rw [← hwx] at hge hkx ⊢
    clear hwx
    have hxx : Ext w wx := Keeps.then_ Hxw.out hkx (fun i hi _ => by omega)
    have hx1x : Ext w1 wx := Keeps.then_ Hs2.out hkx (fun i hi _ => by omega)
    have hch := Hch.out.ext hxx
    have Hrow := Lib.hid Hch.out.own.lt
    obtain ⟨A0, c0, rfl⟩ := hch.own.form
    have q1 := blk_cell hch.blk 1 rfl
    have f1 := blk_free hch.blk
    have e0 := blk_cell hge 0 rfl
    have e1 := blk_cell hge 1 rfl
    have e2 := blk_cell hge 2 rfl
    have e3 := blk_cell hge 3 rfl
    have e4 := blk_cell hge 4 rfl
    have Hch2 := Lib.hid hch
    have Hge2 := Lib.hid hge
    have Hown2 := Lib.hid ((Hch.out.own.mono (ok' := fun k => (b < k ∧ ex k) ∧ k ≠ w.heap.size) (fun k hk h => ⟨h, by omega⟩)).ext hxx)
    have Hxx := Lib.hid hxx
    have hbl : b < w.heap.size := (Array.getElem?_eq_some_iff.1 Hch.out.blk).1
    have hszx := hxx.size
    have hbx : b < wx.heap.size := by omega
    have hwx1 : w1.heap.size < wx.heap.size := (Array.getElem?_eq_some_iff.1 hge).1
    have Hs3 := Lib.hid (show Sl strR (Go.Proofs.YtkfcbafmefdhmaaDoor.off (fun k => (b < k ∧ ex k) ∧ k ≠ w.heap.size) (.slice A0 es.length c0)) wx A1 items.length items from
      (Hs1.out.ext hx1x).mono (fun k hk h => ⟨⟨⟨by simp at h; omega, Hex.out k (by simp at h; omega)⟩, by simp at h; omega⟩, fun e => by have := (Hrow.out k e).2; simp at h; omega⟩))
    have Hnb := Lib.hid (show some b ≠ (Value.slice A0 es.length c0).ownBlock from fun e => by have := (Hrow.out b e.symm).1; omega)
    have Hr := Lib.hid (show Keeps (fun k => k ≠ w1.heap.size) w2 wx from hkx)
    obtain ⟨i0, hi0, hz0, hz1, hz2⟩ := info_parts info_audEnt
    clear hch hge hkx hxx hx1x
    go_upto_region 5 with fail
    go_cut [] (fun wy => ∃ v', (wy.heap[b]? = some (.cells #[.int .u64 seed, v'] 55) ∧ Own entR 33 (fun k => (b < k ∧ ex k) ∧ k ≠ w.heap.size) wy (b + 1) v' (es ++ [(⟨off, now, person, items, sumE (aheadOf seed es) ⟨off, now, person, items, 0⟩⟩ : Ent)]).length (es ++ [(⟨off, now, person, items, sumE (aheadOf seed es) ⟨off, now, person, items, 0⟩⟩ : Ent)])) ∧ Keeps (fun k => k ≠ b ∧ (Value.slice A0 es.length c0).ownBlock ≠ some k) wx wy ∧ (v'.ownBlock = (Value.slice A0 es.length c0).ownBlock ∨ ∀ g, v'.ownBlock = some g → wx.heap.size ≤ g))
    case first =>
      go_region_law (first
        | (refine step_append_Own (ok := fun k => (b < k ∧ ex k) ∧ k ≠ w.heap.size) (R := entR) _ (by rfl) (.tmp 31) (.tmp 33) 37 (by rfl) 33 i0 _ 64 (b + 1) Tryd.underlying37 hi0 hz0 hz1 hz2 rfl (by decide) (by rfl) (Hown2.out.ext (by repeat (first | with_reducible exact Keeps.refl _ _ | with_reducible refine Keeps.drew ?_ | with_reducible refine Keeps.drewN ?_ _ | with_reducible refine Keeps.alloc ?_ _))) _ 1 1 [(⟨off, now, person, items, sumE (aheadOf seed es) ⟨off, now, person, items, 0⟩⟩ : Ent)] (by rfl) (Srcs.one_new ⟨A1, c1, rfl, hc1, Hs3.out.ext (by repeat (first | with_reducible exact Keeps.refl _ _ | with_reducible refine Keeps.drew ?_ | with_reducible refine Keeps.drewN ?_ _ | with_reducible refine Keeps.alloc ?_ _))⟩ (blk_new _ _) rfl) (by omega) (by decide) (by simp; omega) ?_; intro A4 c4 w4 hown4 hg4 hat4; have hb4 := (hg4.block b (by simp; omega) Hnb.out).trans (blk_old Hch2.out.blk _); have q4 := blk_cell hb4 1 rfl; have f4 := blk_free hb4))
      all_goals
        go_wp2_with fail
        go_meet
        refine ⟨.slice A4 (es.length + 1) c4, ⟨by have := blk_set hb4 1 (.slice A4 (es.length + 1) c4); simpa using this, ?_⟩, ?_, ?_⟩
        · have h5 := hown4.keep (w' := w4.setCell ⟨b, 1, none⟩ (.slice A4 (es.length + 1) c4)) ((Keeps.refl _ _).setCell (fun _ h => absurd h.1.1.1 (Nat.lt_irrefl _)) _) (fun g hg => Below.heap_setCell _ _ _ _ (by have := (hown4.lt g hg).1; simp; omega))
          simpa using h5
        · refine Keeps.setCell (Keeps.grown (by repeat (first | with_reducible exact Keeps.refl _ _ | with_reducible refine Keeps.drew ?_ | with_reducible refine Keeps.drewN ?_ _ | with_reducible refine Keeps.alloc ?_ _)) hg4 (fun k hk _ h => h.2 hk)) (fun _ h => h.1 rfl) _
        · rcases hat4 with e | e
          · exact .inl e
          · right
            intro g hg
            rw [e] at hg
            injection hg with hg
            simp at hg; omega
    case rest =>
      obtain ⟨v', hch', hky, hat⟩ := hcut
      obtain ⟨wy, hwy⟩ : ∃ wy, wy = wc := ⟨_, rfl⟩
      rw [← hwy] at hch' hky ⊢
      clear hwy
      have hne : w1.heap.size ≠ b ∧ (Value.slice A0 es.length c0).ownBlock ≠ some w1.heap.size := ⟨by omega, fun e => by have := (Hrow.out _ e).2; omega⟩
      have hge3 := hky.blk Hge2.out hne
      have hgr3 := hky.blk (Hr.out.blk Hgr.out (by omega)) ⟨by omega, fun e => by have := (Hrow.out _ e).2; omega⟩
      have hs4 := (Hs3.out.keep (hky.mono (fun k _ h => ⟨by have := h.1.1.1; omega, h.2⟩)))
      have hkw : Keeps (fun k => k ≠ b ∧ (Value.slice A0 es.length c0).ownBlock ≠ some k) w wy := Keeps.then_ (Hxx.out.keeps _) hky (fun _ _ h => h)
      have e0 := blk_cell hge3 0 rfl
      have e1 := blk_cell hge3 1 rfl
      have e2 := blk_cell hge3 2 rfl
      have e3 := blk_cell hge3 3 rfl
      have e4 := blk_cell hge3 4 rfl
      have Hch' := Lib.hid hch'
      have Hkw := Lib.hid hkw
      have Hat := Lib.hid hat
      have Hgr3 := Lib.hid hgr3
      have Hs4 := Lib.hid hs4
      have hszy := hkw.size
      have hlty : w.heap.size < wy.heap.size := (Array.getElem?_eq_some_iff.1 hgr3).1
      clear hch' hky hat hge3 hgr3 hs4 hkw q1 f1
      go_wp2_with fail
      refine (aud_own (⟨off, now, person, items, sumE (aheadOf seed es) ⟨off, now, person, items, 0⟩⟩ : Ent) A1 c1 _ _ Hs4.out (by show items.length ≤ _; omega)).mono ?_
      rintro _ w5 ⟨A5, c5, rfl, hc5, hs5, hx5⟩
      have g5 := hx5.blk Hgr3.out
      have r0 := blk_cell g5 0 rfl
      have r1 := blk_cell g5 1 rfl
      have r2 := blk_cell g5 2 rfl
      have r3 := blk_cell g5 3 rfl
      have r4 := blk_cell g5 4 rfl
      have f5 := blk_free g5
      have Hx5 := Lib.hid hx5
      have Hs5 := Lib.hid hs5
      have Hc5 := Lib.hid hc5
      clear hx5 hs5 e0 e1 e2 e3 e4 g5 hc5
      go_wp2_with fail
      refine bodyPost_ret (v := .agg #[.int .i64 off, .int .i64 now, .string person, .slice A5 items.length c5, .int .u64 (sumE (aheadOf seed es) (⟨off, now, person, items, 0⟩ : Ent))]) (by simp [results, Tryd.results13, go_sem, r0, r1, r2, r3, r4]) rfl ⟨A5, c5, v', rfl, ?_, Hc5.out, ?_, ?_, ?_⟩
      · refine (Hs5.out.keep ?_).mono (fun k _ h => by omega)
        repeat (first | with_reducible exact Keeps.refl _ _ | with_reducible exact Keeps.refl _ _ | with_reducible refine Keeps.drew ?_ | with_reducible refine Keeps.drewN ?_ _ | with_reducible refine Keeps.alloc ?_ _ | with_reducible refine Keeps.setCell ?_ (by first | (intro h; simp at h; done) | (intro _; simp; done) | (intro _; simp; omega) | (intro h; simp at h; omega)) _)
      · obtain ⟨hbk, hoy⟩ := Hch'.out
        have hWb : b ≠ w.heap.size := by omega
        have hrow : ∀ g, v'.ownBlock = some g → g ≠ w.heap.size := fun g hg => by
          rcases Hat.out with e | e
          · rw [e] at hg; have := (Hrow.out g hg).2; omega
          · have := e g hg; omega
        refine chain_after (g := w.heap.size) ?_ (Hx5.out.blk hbk) hWb (hoy.ext Hx5.out) hrow
        repeat (first | with_reducible exact Keeps.refl _ _ | with_reducible exact Keeps.refl _ _ | with_reducible refine Keeps.drew ?_ | with_reducible refine Keeps.drewN ?_ _ | with_reducible refine Keeps.alloc ?_ _ | with_reducible refine Keeps.setCell ?_ (by first | (intro h; simp at h; done) | (intro _; simp; done) | (intro _; simp; omega) | (intro h; simp at h; omega)) _)
      · have h6 := Keeps.then_ Hkw.out Hx5.out (fun _ _ _ => trivial)
        repeat (first | with_reducible exact h6 | with_reducible exact Keeps.refl _ _ | with_reducible refine Keeps.drew ?_ | with_reducible refine Keeps.drewN ?_ _ | with_reducible refine Keeps.alloc ?_ _ | with_reducible refine Keeps.setCell ?_ (by first | (intro h; simp at h; done) | (intro _; simp; done) | (intro _; simp; omega) | (intro h; simp at h; omega)) _)
      · rcases Hat.out with e | e
        · exact .inl e
        · exact .inr (fun g hg => by have := e g hg; omega)
theorem chain_Add_yes (b : Nat) (seed : Int) (es : List Ent) (v : Value) (off now : Int) (person : ByteArray) (items : List ByteArray) (A : Option Addr) (c : Nat) (ok : Nat → Prop) (w : World) (hch : ChainAt w b seed es v) (hes : es.length ≤ 100000)
    (hs : Sl strR ok w A items.length items) (hmay : mayE (⟨off, now, person, items, 0⟩ : Ent) = true) (hpow : Pow w) :
    Calls Tryd.prog 13 #[.pointer (some ⟨b, 0, none⟩), .int .i64 off, .int .i64 now, .string person, .slice A items.length c] w fun r w' => ∃ A' c' v', r = .returned (.agg #[.int .i64 off, .int .i64 now, .string person, .slice A' items.length c', .int .u64 (sumE (aheadOf seed es) (⟨off, now, person, items, 0⟩ : Ent))]) ∧
      Sl strR (fun k => w.heap.size ≤ k) w' A' items.length items ∧ items.length ≤ c' ∧ ChainAt w' b seed (es ++ [(⟨off, now, person, items, sumE (aheadOf seed es) ⟨off, now, person, items, 0⟩⟩ : Ent)]) v' ∧ Keeps (fun k => k ≠ b ∧ v.ownBlock ≠ some k) w w' ∧ (v'.ownBlock = v.ownBlock ∨ ∀ g, v'.ownBlock = some g → w.heap.size ≤ g) :=
  (chain_Add_yesX (fun _ => True) b seed es v off now person items A c ok w (ChainX.of hch) (fun _ _ => trivial) hes hs hmay hpow).mono fun _ _ ⟨A', c', v', h1, h2, h3, h4, h5⟩ => ⟨A', c', v', h1, h2, h3, h4.at_, h5⟩
end Go.Proofs.YtkfcbafmefdhmaaDoor
