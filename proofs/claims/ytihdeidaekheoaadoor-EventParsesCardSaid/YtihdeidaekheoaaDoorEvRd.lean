/-
  What is proved here: the program's reader of bytes (one, text, number) does what the plain functions say. Conditions: at most 2^30 bytes.
-/
import Derived.Test.YtihdeidaekheoaaDoorEvM
import Derived.Test.YtihdeidaekheoaaDoorBytes
import Derived.Test.YtihdeidaekheoaaDoorProg
import Derived.Laws.Bits128
import Derived.Laws.BitsAllLaws
import Derived.IntWalk
import Derived.Deep.DrawnRows
import Derived.Deep.QuietTactic
import Derived.BigQuiet
import Derived.Outline
namespace Go.Proofs.YtihdeidaekheoaaDoor
open Go Go.RowKit Go.Proofs
attribute [local go_sem ↓] Go.wp_at_zero Go.wp_at_succ

def byteR : Rep UInt8 where
  size := 1
  rep _ _ x xs := xs = [byteV x]
  len h := by subst h; rfl
  one h u hu := by subst h; simp at hu; subst hu; rfl
  keep _ h := h
  mono _ h := h
theorem byteR_flat : byteR.flat := fun _ _ _ _ _ _ h => h
theorem Sl.byte {ok : Nat → Prop} {w : World} {A : Option Addr} {n : Nat} {l : List UInt8} (h : Sl byteR ok w A n l) {k : Nat} (hk : k < n) : ∃ (b o : Nat) (x : UInt8), A = some ⟨b, o, none⟩ ∧ b < w.heap.size ∧ ok b ∧ l[k]? = some x ∧ w.cell? ⟨b, o + k, none⟩ = some (.int .u8 (x.toNat : Int)) := by
  obtain ⟨b, o, s, xs, rfl, hb, ho, hs, rfl, hc⟩ := h.at_ hk
  exact ⟨b, o, s, rfl, hb, ho, hs, by simpa [byteR, byteV] using hc 0 _ rfl⟩

/-! ### the plain reader: bytes, a place, an error -/
structure Rd where
  pos : Nat
  err : Int
def rOne (bs : List UInt8) (r : Rd) : UInt8 × Rd := if r.err ≠ 0 then (0, r) else if bs.length ≤ r.pos then (0, ⟨r.pos, 3⟩) else (bs.getD r.pos 0, ⟨r.pos + 1, 0⟩)
def rText (bs : List UInt8) (r : Rd) : List UInt8 × Rd :=
  let x := rOne bs r
  if x.2.err ≠ 0 then ([], x.2) else if bs.length - x.2.pos < x.1.toNat then ([], ⟨x.2.pos, 3⟩) else ((bs.drop x.2.pos).take x.1.toNat, ⟨x.2.pos + x.1.toNat, 0⟩)
/-- A number from a place on: round i, what is gathered so far. -/
def rNum (bs : List UInt8) : Nat → Nat → Nat → Rd → Nat × Rd
  | 0, _, _, r => (0, ⟨r.pos, 2⟩)
  | fuel + 1, i, m, r =>
    let x := rOne bs r
    if x.2.err ≠ 0 then (0, x.2)
    else if (128 ≤ x.1.toNat ∧ i = 5) ∨ (x.1.toNat = 0 ∧ 0 < i) then (0, ⟨x.2.pos, 2⟩)
    else if x.1.toNat < 128 then (m + x.1.toNat * 128 ^ i, x.2)
    else rNum bs fuel (i + 1) (m + (x.1.toNat % 128) * 128 ^ i) x.2

/-- The reader's box. -/
def RdAt (w : World) (g : Nat) (A : Option Addr) (n c : Nat) (r : Rd) : Prop := w.heap[g]? = some (.cells #[.slice A n c, .int .i64 (r.pos : Int), .int .i64 r.err] 80)
def RdPost (g : Nat) (A : Option Addr) (n c : Nat) (v : Value) (r : Rd) (w : World) (e : Ending) (w' : World) : Prop := e = .returned v ∧ RdAt w' g A n c r ∧ Keeps (fun k => k ≠ g) w w'

set_option maxRecDepth 100000 in
set_option maxHeartbeats 4000000 in
theorem rd_one (g : Nat) (A : Option Addr) (n c : Nat) (bs : List UInt8) (r : Rd) (ok : Nat → Prop) (w : World) (hg : RdAt w g A n c r) (hs : Sl byteR ok w A n bs) (hok : ¬ ok g) (hn : n ≤ 1073741824) (hp : r.pos ≤ n) :
    Calls Tryd.prog 64 #[.pointer (some ⟨g, 0, none⟩)] w (RdPost g A n c (.int .u8 ((rOne bs r).1.toNat : Int)) (rOne bs r).2 w) := by
  obtain ⟨p, e⟩ := r
  have hl := hs.1
  unfold RdAt at hg
  simp only at hg hp
  have q0 := blk_cell hg 0 rfl
  have q1 := blk_cell hg 1 rfl
  have q2 := blk_cell hg 2 rfl
  have f0 := blk_free hg
  have Hg := Lib.hid hg
  clear hg
  cases h0 : (e != 0)
  · have he : e = 0 := by simpa using h0
    subst he
    by_cases hlt : p < n
    · obtain ⟨b, o, x, rfl, hb, hob, hx, hc⟩ := hs.byte hlt
      have Hf := Lib.hid (show rOne bs ⟨p, 0⟩ = (x, ⟨p + 1, 0⟩) by
        unfold rOne
        rw [if_neg (by simp), if_neg (by simp only; omega)]
        simp only [List.getD_eq_getElem?_getD, hx]; rfl)
      have hne : b ≠ g := fun e => hok (e ▸ hob)
      have Hl := Lib.hid hl
      clear hl hx h0
      have i0 : (0 : Int) ≤ (p : Int) := by omega
      have i1 : (p : Int) < (n : Int) := by omega
      go_enter Tryd.func64, Tryd.ntmps64
      go_wp2_with fail
      go_quiet (fail)
      go_wp2_with fail
      obtain ⟨Y, hY⟩ : ∃ Y, Y = (w.drewN nq).setCell ⟨g, 1, none⟩ (.int .i64 ((p : Int) + 1)) := ⟨_, rfl⟩
      rw [← hY]
      have hg2 : Y.heap[g]? = some (.cells #[.slice (some ⟨b, o, none⟩) n c, .int .i64 ((p : Int) + 1), .int .i64 0] 80) := by rw [hY]; exact blk_set (show (w.drewN nq).heap[g]? = _ from Hg.out) 1 (.int .i64 ((p : Int) + 1))
      have hc2 : Y.cell? ⟨b, o + p, none⟩ = some (.int .u8 (x.toNat : Int)) := by rw [hY, World.cell?_setCell_other _ _ _ _ (by intro e; injection e with e1; exact hne e1.symm)]; exact hc
      have Hk := Lib.hid (show Keeps (fun k => k ≠ g) w Y by rw [hY]; exact Keeps.setCell ((Keeps.refl _ _).drewN _) (fun _ h => h rfl) _)
      have Hg2 := Lib.hid hg2
      have r0 := blk_cell hg2 0 rfl
      have r1 := blk_cell hg2 1 rfl
      have w1 : IntKind.i64.wrap ((p : Int) + 1 - 1) = (p : Int) := by rw [IntWalk.i64_in _ (by omega)]; omega
      clear hY hg2 q0 q1 q2 f0 hc
      go_quiet (fail)
      go_wp2_with fail
      go_ret
      rw [Hf.out]
      refine ⟨rfl, ?_, Hk.out.drewN _⟩
      have := Hg2.out
      simp only [RdAt]
      rw [show (((p + 1 : Nat) : Int)) = (p : Int) + 1 by omega]
      exact this
    · obtain rfl : p = n := by omega
      have Hf := Lib.hid (show rOne bs ⟨p, 0⟩ = (0, ⟨p, 3⟩) by
        unfold rOne
        rw [if_neg (by simp), if_pos (by simp only; omega)])
      clear h0 hl
      go_enter Tryd.func64, Tryd.ntmps64
      go_wp2_with fail
      go_quiet (fail)
      go_wp2_with fail
      go_ret
      rw [Hf.out]
      refine ⟨rfl, ?_, Keeps.setCell ((Keeps.refl _ _).drewN _) (fun _ h => h rfl) _⟩
      exact blk_set (show (w.drewN nq).heap[g]? = _ from Hg.out) 2 (.int .i64 3)
  · have Hf := Lib.hid (show rOne bs ⟨p, e⟩ = (0, ⟨p, e⟩) by unfold rOne; rw [if_pos (by simpa using h0)])
    clear hl
    go_enter Tryd.func64, Tryd.ntmps64
    go_wp2_with fail
    go_ret
    rw [Hf.out]
    exact ⟨rfl, Hg.out, Keeps.refl _ _⟩

theorem rOne_le {bs : List UInt8} {r : Rd} (h : r.pos ≤ bs.length) : (rOne bs r).2.pos ≤ bs.length := by
  unfold rOne
  split
  · exact h
  · split
    · exact h
    · simp only; omega
theorem RdAt.keep {ok : Nat → Prop} {w w' : World} {g : Nat} {A : Option Addr} {n c : Nat} {r : Rd} (h : RdAt w g A n c r) (hk : Keeps ok w w') (ho : ok g) : RdAt w' g A n c r := Keeps.blk hk h ho
/-- Bytes of a slice, made into a text. -/
theorem text_of_sl {P : Program} {ok : Nat → Prop} {w : World} {b o n : Nat} {bs : List UInt8} (src dst e : TypeId) (lo k c : Nat) (hs : P.underlying src = some (.slice e)) (he : P.underlying e = some (.int .u8)) (hd : P.underlying dst = some .string) (h : Sl byteR ok w (some ⟨b, o, none⟩) n bs) (hlk : lo + k ≤ n) (m : Nat) :
    (convert src dst (.slice (some ⟨b, o + lo, none⟩) k c)).run P (w.drewN m) = .ok (.string (bts ((bs.drop lo).take k))) (w.drewN m) := by
  have hln : ((bs.drop lo).take k).length = k := by rw [List.length_take, List.length_drop, h.1]; omega
  have := run_convert_bytes_back (P := P) (w.drewN m) src dst e ⟨b, o + lo, none⟩ c ((bs.drop lo).take k) hs he hd (fun j hj => by
    rw [hln] at hj
    obtain ⟨b', o', x, e1, _, _, hx, hc⟩ := h.byte (k := lo + j) (by omega)
    injection e1 with e1
    injection e1 with e1 e2
    subst e1 e2
    rw [ad_add]
    have hx2 : ((bs.drop lo).take k)[j]'(by rw [hln]; exact hj) = x := by
      rw [List.getElem_take, List.getElem_drop]
      exact (List.getElem?_eq_some_iff.1 hx).2
    rw [hx2]
    have e3 : o + lo + j = o + (lo + j) := by omega
    rw [e3]
    exact hc)
  rw [hln] at this
  exact this

set_option maxRecDepth 100000 in
set_option maxHeartbeats 4000000 in
theorem rd_text (g : Nat) (A : Option Addr) (n c : Nat) (bs : List UInt8) (r : Rd) (ok : Nat → Prop) (w : World) (hg : RdAt w g A n c r) (hs : Sl byteR ok w A n bs) (hok : ¬ ok g) (hn : n ≤ 1073741824) (hnc : n ≤ c) (hp : r.pos ≤ n) :
    Calls Tryd.prog 65 #[.pointer (some ⟨g, 0, none⟩)] w (RdPost g A n c (.string (bts (rText bs r).1)) (rText bs r).2 w) := by
  have hl := hs.1
  have Hone := Lib.hid (rd_one g A n c bs r ok w hg hs hok hn hp)
  have hr1 := rOne_le (bs := bs) (r := r) (by omega)
  have hT : rText bs r = if (rOne bs r).2.err ≠ 0 then ([], (rOne bs r).2) else if bs.length - (rOne bs r).2.pos < (rOne bs r).1.toNat then ([], ⟨(rOne bs r).2.pos, 3⟩) else ((bs.drop (rOne bs r).2.pos).take (rOne bs r).1.toNat, ⟨(rOne bs r).2.pos + (rOne bs r).1.toNat, 0⟩) := rfl
  have hpos : (rOne bs r).2.err = 0 → 0 < n := by
    unfold rOne
    split
    · intro h; contradiction
    · split
      · intro h; simp at h
      · intro _; omega
  generalize rOne bs r = x at *
  obtain ⟨cx, q, e⟩ := x
  simp only at hT hr1
  have hcx : cx.toNat < 256 := cx.toNat_lt
  obtain ⟨k, hk⟩ : ∃ k, k = cx.toNat := ⟨_, rfl⟩
  simp only at Hone
  rw [← hk] at Hone hT hcx
  clear hk hg
  have Hs := Lib.hid hs
  clear hs
  cases h0 : (e != 0)
  · have he : e = 0 := by simpa using h0
    subst he
    rw [if_neg (by simp)] at hT
    by_cases hlt : n - q < k
    · rw [if_pos (by omega)] at hT
      have HT := Lib.hid hT
      have z1 : IntKind.i64.wrap ((n : Int) - (q : Int)) = (n : Int) - (q : Int) := IntWalk.i64_in _ (by omega)
      have z2 : decide ((n : Int) - (q : Int) < (k : Int)) = true := by simp; omega
      clear hT h0
      go_enter Tryd.func65, Tryd.ntmps65
      go_wp2_with (go_at_call 64; refine Hone.out.mono ?_; rintro _ w1 ⟨rfl, hg1, hk1⟩; have Hg1 := Lib.hid hg1; have Hk1 := Lib.hid hk1; have q0 := blk_cell hg1 0 rfl; have q1 := blk_cell hg1 1 rfl; have q2 := blk_cell hg1 2 rfl; have f0 := blk_free hg1; clear hg1 hk1)
      go_quiet (fail)
      go_wp2_with fail
      go_ret
      rw [HT.out]
      refine ⟨rfl, ?_, Keeps.setCell (Hk1.out.drewN _) (fun _ h => h rfl) _⟩
      exact blk_set (show (w1.drewN nq).heap[g]? = _ from Hg1.out) 2 (.int .i64 3)
    · rw [if_neg (by omega)] at hT
      have HT := Lib.hid hT
      have z1 : IntKind.i64.wrap ((n : Int) - (q : Int)) = (n : Int) - (q : Int) := IntWalk.i64_in _ (by omega)
      have z2 : decide ((n : Int) - (q : Int) < (k : Int)) = false := by simp; omega
      clear hT h0
      go_enter Tryd.func65, Tryd.ntmps65
      go_wp2_with (go_at_call 64; refine Hone.out.mono ?_; rintro _ w1 ⟨rfl, hg1, hk1⟩; have Hg1 := Lib.hid hg1; have Hk1 := Lib.hid hk1; have q0 := blk_cell hg1 0 rfl; have q1 := blk_cell hg1 1 rfl; have q2 := blk_cell hg1 2 rfl; have f0 := blk_free hg1; clear hg1 hk1)
      go_quiet (fail)
      go_wp2_with fail
      obtain ⟨b, o, hA, hbw, hob, _⟩ := Hs.out.2 (hpos trivial)
      subst hA
      have hne : b ≠ g := fun e => hok (e ▸ hob)
      obtain ⟨Y, hY⟩ : ∃ Y, Y = (w1.drewN nq).setCell ⟨g, 1, none⟩ (.int .i64 ((q : Int) + (k : Int))) := ⟨_, rfl⟩
      rw [← hY]
      have hg2 : Y.heap[g]? = some (.cells #[.slice (some ⟨b, o, none⟩) n c, .int .i64 ((q : Int) + (k : Int)), .int .i64 0] 80) := by rw [hY]; exact blk_set (show (w1.drewN nq).heap[g]? = _ from Hg1.out) 1 (.int .i64 ((q : Int) + (k : Int)))
      have hkY : Keeps (fun k => k ≠ g) w Y := by rw [hY]; exact Keeps.setCell (Hk1.out.drewN _) (fun _ h => h rfl) _
      have hsY : Sl byteR ok Y (some ⟨b, o, none⟩) n bs := Hs.out.keep (hkY.mono (fun i _ h e => hok (e ▸ h)))
      have Hk := Lib.hid hkY
      have Hg2 := Lib.hid hg2
      have r0 := blk_cell hg2 0 rfl
      have r1 := blk_cell hg2 1 rfl
      have v1 : IntKind.i64.wrap (q : Int) = (q : Int) := IntWalk.i64_in _ (by omega)
      have i0 : (0 : Int) ≤ (q : Int) := by omega
      have i1 : (q : Int) ≤ (q : Int) + (k : Int) := by omega
      have i2 : (q : Int) + (k : Int) ≤ (c : Int) := by omega
      have hh : ((q : Int) + (k : Int)).toNat = q + k := by omega
      have HsY := Lib.hid hsY
      clear hY hg2 q0 q1 q2 f0 hkY hsY z1 z2
      by_cases hqc : c = q
      · obtain rfl : k = 0 := by omega
        have hcv := text_of_sl (P := Tryd.prog) 28 9 5 0 0 0 Tryd.underlying28 Tryd.underlying5 Tryd.underlying9 HsY.out (by omega)
        have e9 : bts ((bs.drop 0).take 0) = ⟨#[]⟩ := rfl
        rw [e9] at hcv
        simp only [Nat.add_zero] at hcv
        have HT2 := Lib.hid (show bts (rText bs r).1 = ⟨#[]⟩ by rw [HT.out]; rfl)
        go_quiet (fail)
        go_wp2_with fail
        go_ret
        rw [HT2.out, HT.out]
        refine ⟨rfl, ?_, Hk.out.drewN _⟩
        have := Hg2.out
        simp only [RdAt]
        rw [show (((q + 0 : Nat) : Int)) = (q : Int) + ((0 : Nat) : Int) by omega]
        exact this
      · have hcv := text_of_sl (P := Tryd.prog) 28 9 5 q k (c - q) Tryd.underlying28 Tryd.underlying5 Tryd.underlying9 HsY.out (by omega)
        go_quiet (fail)
        go_wp2_with fail
        go_ret
        rw [HT.out]
        refine ⟨rfl, ?_, Hk.out.drewN _⟩
        have := Hg2.out
        simp only [RdAt]
        rw [show (((q + k : Nat) : Int)) = (q : Int) + (k : Int) by omega]
        exact this
  · rw [if_pos (by simpa using h0)] at hT
    have HT := Lib.hid hT
    clear hT
    go_enter Tryd.func65, Tryd.ntmps65
    go_wp2_with (go_at_call 64; refine Hone.out.mono ?_; rintro _ w1 ⟨rfl, hg1, hk1⟩; have Hg1 := Lib.hid hg1; have Hk1 := Lib.hid hk1; have q0 := blk_cell hg1 0 rfl; have q1 := blk_cell hg1 1 rfl; have q2 := blk_cell hg1 2 rfl; clear hg1 hk1)
    go_ret
    rw [HT.out]
    exact ⟨rfl, Hg1.out, Hk1.out⟩
end Go.Proofs.YtihdeidaekheoaaDoor
