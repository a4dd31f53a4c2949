/-
  What is proved here: the program's Decode of bytes is what the plain functions say. Conditions: at most 100,000 bytes; the library's own variable holds some number.
-/
import Derived.Test.YtihdeidaekheoaaDoorEvNum
import Derived.Test.YtihdeidaekheoaaDoorEvEnc
import Derived.Deep.RegionHeld3
import Derived.RegionTactic
import Derived.Deep.DeepCutAuto
import Derived.BigRegion
namespace Go.Proofs.YtihdeidaekheoaaDoor
open Go Go.RowKit Go.Proofs
attribute [local go_sem ↓] Go.wp_at_zero Go.wp_at_succ

structure Dec where
  k : UInt8
  e : Ev
  r : Rd
/-- What is read, field by field. -/
def dec0 (bs : List UInt8) : Dec := let x := rOne bs ⟨0, 0⟩; ⟨x.1, ⟨⟨#[]⟩, 0, 0, (x.1.toNat : Int), ⟨#[]⟩, ⟨#[]⟩, 0, ⟨#[]⟩⟩, x.2⟩
def decS1 (bs : List UInt8) (d : Dec) : Dec := let x := rText bs d.r; ⟨d.k, { d.e with src := bts x.1 }, x.2⟩
def decS2 (bs : List UInt8) (d : Dec) : Dec := let x := rNum bs 6 0 0 d.r; ⟨d.k, { d.e with num := (x.1 : Int) }, x.2⟩
def decS3 (bs : List UInt8) (d : Dec) : Dec := let x := rNum bs 6 0 0 d.r; ⟨d.k, { d.e with tick := (x.1 : Int) }, x.2⟩
def decS4 (bs : List UInt8) (d : Dec) : Dec := let x := rText bs d.r; ⟨d.k, { d.e with person := bts x.1 }, x.2⟩
def decS5 (bs : List UInt8) (d : Dec) : Dec := let x := rText bs d.r; ⟨d.k, { d.e with item := bts x.1 }, x.2⟩
def decS6 (bs : List UInt8) (d : Dec) : Dec := let x := rNum bs 6 0 0 d.r; ⟨d.k, { d.e with value := (x.1 : Int) }, x.2⟩
def decS7 (bs : List UInt8) (d : Dec) : Dec := let x := rText bs d.r; ⟨d.k, { d.e with text := bts x.1 }, x.2⟩
def dec1 (bs : List UInt8) : Dec := decS1 bs (dec0 bs)
def dec2 (bs : List UInt8) : Dec := decS2 bs (dec1 bs)
def dec3 (bs : List UInt8) : Dec := decS3 bs (dec2 bs)
def dec4 (bs : List UInt8) : Dec := decS4 bs (dec3 bs)
def dec5 (bs : List UInt8) : Dec := decS5 bs (dec4 bs)
def dec6 (bs : List UInt8) : Dec := decS6 bs (dec5 bs)
def dec7 (bs : List UInt8) : Dec := decS7 bs (dec6 bs)
def zeroE : Ev := ⟨⟨#[]⟩, 0, 0, 0, ⟨#[]⟩, ⟨#[]⟩, 0, ⟨#[]⟩⟩
/-- The event, how many bytes, the error. -/
def decE (bs : List UInt8) : Ev × Int × Int :=
  if (dec7 bs).r.err ≠ 0 then (zeroE, 0, (dec7 bs).r.err) else if mayE (dec7 bs).e then ((dec7 bs).e, ((dec7 bs).r.pos : Int), 0) else (zeroE, 0, 2)
theorem three_new (w : World) (A B C : Obj) : (((w.alloc A).alloc B).alloc C).heap[w.heap.size]? = some A ∧ (((w.alloc A).alloc B).alloc C).heap[w.heap.size + 1]? = some B ∧ (((w.alloc A).alloc B).alloc C).heap[w.heap.size + 1 + 1]? = some C := by
  refine ⟨blk_old (blk_old (blk_new w A) B) C, blk_old ?_ C, ?_⟩
  · have := blk_new (w.alloc A) B
    simpa using this
  · have := blk_new ((w.alloc A).alloc B) C
    simpa using this
theorem rText_le {bs : List UInt8} {r : Rd} (h : r.pos ≤ bs.length) : (rText bs r).2.pos ≤ bs.length := by
  have h1 := rOne_le h
  unfold rText
  simp only
  split
  · exact h1
  · split
    · exact h1
    · simp only; omega
theorem rNum_le {bs : List UInt8} : ∀ (fuel i m : Nat) {r : Rd}, r.pos ≤ bs.length → (rNum bs fuel i m r).2.pos ≤ bs.length
  | 0, _, _, _, h => h
  | fuel + 1, i, m, r, h => by
    have h1 := rOne_le h
    unfold rNum
    simp only
    split
    · exact h1
    · split
      · exact h1
      · split
        · exact h1
        · exact rNum_le fuel _ _ h1
theorem rText_size {bs : List UInt8} {r : Rd} : (rText bs r).1.length ≤ 255 := by
  unfold rText
  simp only
  split
  · simp
  · split
    · simp
    · rw [List.length_take]; have := (rOne bs r).1.toNat_lt; omega
def evC (e : Ev) : Array Value := #[.string e.src, .int .i64 e.num, .int .i64 e.tick, .int .i64 e.kind, .string e.person, .string e.item, .int .i64 e.value, .string e.text]
def DecPost (bs : List UInt8) (w : World) (r : Ending) (w' : World) : Prop :=
  r = .returned (.tuple #[.agg (evC (decE bs).1), .int .i64 (decE bs).2.1, .int .i64 (decE bs).2.2]) ∧ Ext w w'

set_option maxRecDepth 100000 in
set_option maxHeartbeats 8000000 in
theorem ev_Decode (A : Option Addr) (n c : Nat) (bs : List UInt8) (ok : Nat → Prop) (w : World) (hs : Sl byteR ok w A n bs) (hok : ∀ k, ok k → k < w.heap.size) (hn : n ≤ 100000) (hnc : n ≤ c) (hm : Mx w) :
    Calls Tryd.prog 34 #[.slice A n c] w (DecPost bs w) := by
  have Hs := Lib.hid hs
  have hl := hs.1
  have Hok := Lib.hid hok
  have Hm := Lib.hid hm
  obtain ⟨x0, hx0⟩ : ∃ x, x = rOne bs ⟨0, 0⟩ := ⟨_, rfl⟩
  have hp0 : x0.2.pos ≤ n := by rw [hx0]; have := rOne_le (bs := bs) (r := ⟨0, 0⟩) (Nat.zero_le _); omega
  have hD0 : dec0 bs = ⟨x0.1, ⟨⟨#[]⟩, 0, 0, (x0.1.toNat : Int), ⟨#[]⟩, ⟨#[]⟩, 0, ⟨#[]⟩⟩, x0.2⟩ := by rw [hx0]; rfl
  have hk255 := x0.1.toNat_lt
  obtain ⟨kb, hkb⟩ : ∃ kb, kb = x0.1.toNat := ⟨_, rfl⟩
  obtain ⟨k0, r0⟩ := x0
  simp only at hkb hp0 hD0 hk255
  rw [← hkb] at hD0 hk255
  obtain ⟨y1, hy1⟩ : ∃ x, x = rText bs r0 := ⟨_, rfl⟩
  have hp1 : y1.2.pos ≤ n := by rw [hy1]; have := rText_le (bs := bs) (r := r0) (by omega); omega
  have hz1 : y1.1.length ≤ 255 := by rw [hy1]; exact rText_size
  obtain ⟨v1, hv1⟩ : ∃ s, s = bts y1.1 := ⟨_, rfl⟩
  have hz1' : v1.size ≤ 999999 := by rw [hv1, bts_size]; omega
  have hD1 : dec1 bs = ⟨k0, ⟨v1, 0, 0, (kb : Int), ⟨#[]⟩, ⟨#[]⟩, 0, ⟨#[]⟩⟩, y1.2⟩ := by rw [dec1, hD0, hv1, hy1]; rfl
  obtain ⟨u1, r1⟩ := y1
  simp only at hp1 hD1 hv1 hz1
  obtain ⟨y2, hy2⟩ : ∃ x, x = rNum bs 6 0 0 r1 := ⟨_, rfl⟩
  have hp2 : y2.2.pos ≤ n := by rw [hy2]; have := rNum_le (bs := bs) 6 0 0 (r := r1) (by omega); omega
  obtain ⟨v2, hv2⟩ : ∃ s : Int, s = (y2.1 : Int) := ⟨_, rfl⟩
  have hD2 : dec2 bs = ⟨k0, ⟨v1, v2, 0, (kb : Int), ⟨#[]⟩, ⟨#[]⟩, 0, ⟨#[]⟩⟩, y2.2⟩ := by rw [dec2, hD1, hv2, hy2]; rfl
  obtain ⟨u2, r2⟩ := y2
  simp only at hp2 hD2 hv2
  obtain ⟨y3, hy3⟩ : ∃ x, x = rNum bs 6 0 0 r2 := ⟨_, rfl⟩
  have hp3 : y3.2.pos ≤ n := by rw [hy3]; have := rNum_le (bs := bs) 6 0 0 (r := r2) (by omega); omega
  obtain ⟨v3, hv3⟩ : ∃ s : Int, s = (y3.1 : Int) := ⟨_, rfl⟩
  have hD3 : dec3 bs = ⟨k0, ⟨v1, v2, v3, (kb : Int), ⟨#[]⟩, ⟨#[]⟩, 0, ⟨#[]⟩⟩, y3.2⟩ := by rw [dec3, hD2, hv3, hy3]; rfl
  obtain ⟨u3, r3⟩ := y3
  simp only at hp3 hD3 hv3
  obtain ⟨y4, hy4⟩ : ∃ x, x = rText bs r3 := ⟨_, rfl⟩
  have hp4 : y4.2.pos ≤ n := by rw [hy4]; have := rText_le (bs := bs) (r := r3) (by omega); omega
  have hz4 : y4.1.length ≤ 255 := by rw [hy4]; exact rText_size
  obtain ⟨v4, hv4⟩ : ∃ s, s = bts y4.1 := ⟨_, rfl⟩
  have hz4' : v4.size ≤ 999999 := by rw [hv4, bts_size]; omega
  have hD4 : dec4 bs = ⟨k0, ⟨v1, v2, v3, (kb : Int), v4, ⟨#[]⟩, 0, ⟨#[]⟩⟩, y4.2⟩ := by rw [dec4, hD3, hv4, hy4]; rfl
  obtain ⟨u4, r4⟩ := y4
  simp only at hp4 hD4 hv4 hz4
  obtain ⟨y5, hy5⟩ : ∃ x, x = rText bs r4 := ⟨_, rfl⟩
  have hp5 : y5.2.pos ≤ n := by rw [hy5]; have := rText_le (bs := bs) (r := r4) (by omega); omega
  have hz5 : y5.1.length ≤ 255 := by rw [hy5]; exact rText_size
  obtain ⟨v5, hv5⟩ : ∃ s, s = bts y5.1 := ⟨_, rfl⟩
  have hz5' : v5.size ≤ 999999 := by rw [hv5, bts_size]; omega
  have hD5 : dec5 bs = ⟨k0, ⟨v1, v2, v3, (kb : Int), v4, v5, 0, ⟨#[]⟩⟩, y5.2⟩ := by rw [dec5, hD4, hv5, hy5]; rfl
  obtain ⟨u5, r5⟩ := y5
  simp only at hp5 hD5 hv5 hz5
  obtain ⟨y6, hy6⟩ : ∃ x, x = rNum bs 6 0 0 r5 := ⟨_, rfl⟩
  have hp6 : y6.2.pos ≤ n := by rw [hy6]; have := rNum_le (bs := bs) 6 0 0 (r := r5) (by omega); omega
  obtain ⟨v6, hv6⟩ : ∃ s : Int, s = (y6.1 : Int) := ⟨_, rfl⟩
  have hD6 : dec6 bs = ⟨k0, ⟨v1, v2, v3, (kb : Int), v4, v5, v6, ⟨#[]⟩⟩, y6.2⟩ := by rw [dec6, hD5, hv6, hy6]; rfl
  obtain ⟨u6, r6⟩ := y6
  simp only at hp6 hD6 hv6
  obtain ⟨y7, hy7⟩ : ∃ x, x = rText bs r6 := ⟨_, rfl⟩
  have hp7 : y7.2.pos ≤ n := by rw [hy7]; have := rText_le (bs := bs) (r := r6) (by omega); omega
  have hz7 : y7.1.length ≤ 255 := by rw [hy7]; exact rText_size
  obtain ⟨v7, hv7⟩ : ∃ s, s = bts y7.1 := ⟨_, rfl⟩
  have hz7' : v7.size ≤ 999999 := by rw [hv7, bts_size]; omega
  have hD7 : dec7 bs = ⟨k0, ⟨v1, v2, v3, (kb : Int), v4, v5, v6, v7⟩, y7.2⟩ := by rw [dec7, hD6, hv7, hy7]; rfl
  obtain ⟨u7, r7⟩ := y7
  simp only at hp7 hD7 hv7 hz7
  clear hD0 hD1 hD2 hD3 hD4 hD5 hD6
  obtain ⟨p7, e7⟩ := r7
  simp only at hp7
  have C0 := Lib.hid (fun (W : World) (h1 : RdAt W (w.heap.size + 1) A n c ⟨0, 0⟩) (h2 : Sl byteR ok W A n bs) (h3 : ¬ ok (w.heap.size + 1)) => show Calls Tryd.prog 64 #[.pointer (some ⟨w.heap.size + 1, 0, none⟩)] W (RdPost (w.heap.size + 1) A n c (.int .u8 (kb : Int)) r0 W) by have h9 := rd_one (w.heap.size + 1) A n c bs ⟨0, 0⟩ ok W h1 h2 h3 (by omega) (Nat.zero_le _); rw [← hx0] at h9; simp only at h9; rw [← hkb] at h9; exact h9)
  have C1 := Lib.hid (fun (W : World) (h1 : RdAt W (w.heap.size + 1) A n c r0) (h2 : Sl byteR ok W A n bs) (h3 : ¬ ok (w.heap.size + 1)) => show Calls Tryd.prog 65 #[.pointer (some ⟨w.heap.size + 1, 0, none⟩)] W (RdPost (w.heap.size + 1) A n c (.string v1) r1 W) by have h9 := rd_text (w.heap.size + 1) A n c bs r0 ok W h1 h2 h3 (by omega) hnc (by omega); rw [← hy1] at h9; simp only at h9; rw [hv1]; exact h9)
  have C2 := Lib.hid (fun (W : World) (h1 : RdAt W (w.heap.size + 1) A n c r1) (h2 : Sl byteR ok W A n bs) (h3 : ¬ ok (w.heap.size + 1)) => show Calls Tryd.prog 66 #[.pointer (some ⟨w.heap.size + 1, 0, none⟩)] W (RdPost (w.heap.size + 1) A n c (.int .i64 v2) r2 W) by have h9 := rd_number (w.heap.size + 1) A n c bs r1 ok W h1 h2 h3 (by omega) (by omega); rw [← hy2] at h9; simp only at h9; rw [hv2]; exact h9)
  have C3 := Lib.hid (fun (W : World) (h1 : RdAt W (w.heap.size + 1) A n c r2) (h2 : Sl byteR ok W A n bs) (h3 : ¬ ok (w.heap.size + 1)) => show Calls Tryd.prog 66 #[.pointer (some ⟨w.heap.size + 1, 0, none⟩)] W (RdPost (w.heap.size + 1) A n c (.int .i64 v3) r3 W) by have h9 := rd_number (w.heap.size + 1) A n c bs r2 ok W h1 h2 h3 (by omega) (by omega); rw [← hy3] at h9; simp only at h9; rw [hv3]; exact h9)
  have C4 := Lib.hid (fun (W : World) (h1 : RdAt W (w.heap.size + 1) A n c r3) (h2 : Sl byteR ok W A n bs) (h3 : ¬ ok (w.heap.size + 1)) => show Calls Tryd.prog 65 #[.pointer (some ⟨w.heap.size + 1, 0, none⟩)] W (RdPost (w.heap.size + 1) A n c (.string v4) r4 W) by have h9 := rd_text (w.heap.size + 1) A n c bs r3 ok W h1 h2 h3 (by omega) hnc (by omega); rw [← hy4] at h9; simp only at h9; rw [hv4]; exact h9)
  have C5 := Lib.hid (fun (W : World) (h1 : RdAt W (w.heap.size + 1) A n c r4) (h2 : Sl byteR ok W A n bs) (h3 : ¬ ok (w.heap.size + 1)) => show Calls Tryd.prog 65 #[.pointer (some ⟨w.heap.size + 1, 0, none⟩)] W (RdPost (w.heap.size + 1) A n c (.string v5) r5 W) by have h9 := rd_text (w.heap.size + 1) A n c bs r4 ok W h1 h2 h3 (by omega) hnc (by omega); rw [← hy5] at h9; simp only at h9; rw [hv5]; exact h9)
  have C6 := Lib.hid (fun (W : World) (h1 : RdAt W (w.heap.size + 1) A n c r5) (h2 : Sl byteR ok W A n bs) (h3 : ¬ ok (w.heap.size + 1)) => show Calls Tryd.prog 66 #[.pointer (some ⟨w.heap.size + 1, 0, none⟩)] W (RdPost (w.heap.size + 1) A n c (.int .i64 v6) r6 W) by have h9 := rd_number (w.heap.size + 1) A n c bs r5 ok W h1 h2 h3 (by omega) (by omega); rw [← hy6] at h9; simp only at h9; rw [hv6]; exact h9)
  have C7 := Lib.hid (fun (W : World) (h1 : RdAt W (w.heap.size + 1) A n c r6) (h2 : Sl byteR ok W A n bs) (h3 : ¬ ok (w.heap.size + 1)) => show Calls Tryd.prog 65 #[.pointer (some ⟨w.heap.size + 1, 0, none⟩)] W (RdPost (w.heap.size + 1) A n c (.string v7) ⟨p7, e7⟩ W) by have h9 := rd_text (w.heap.size + 1) A n c bs r6 ok W h1 h2 h3 (by omega) hnc (by omega); rw [← hy7] at h9; simp only at h9; rw [hv7]; exact h9)
  have HD := Lib.hid hD7
  have HSm := Lib.hid (show EvSm (⟨v1, v2, v3, (kb : Int), v4, v5, v6, v7⟩ : Ev) from ⟨hz1', hz4', hz5', hz7'⟩)
  have hkv : (0 : Int) ≤ (kb : Int) := by omega
  clear hx0 hkb hy1 hy2 hy3 hy4 hy5 hy6 hy7 hv1 hv2 hv3 hv4 hv5 hv6 hv7 hD7 hz1 hz4 hz5 hz7 hz1' hz4' hz5' hz7' hs hok hm hl
  go_enter Tryd.func34, Tryd.ntmps34
  go_wp2_with fail
  obtain ⟨gR0, gB0, gE0⟩ := three_new w (.cells #[.string ⟨#[]⟩, .int .i64 0, .int .i64 0, .int .i64 0, .string ⟨#[]⟩, .string ⟨#[]⟩, .int .i64 0, .string ⟨#[]⟩] 24) (.cells #[.slice A n c, .int .i64 0, .int .i64 0] 80) (.cells #[.string ⟨#[]⟩, .int .i64 0, .int .i64 0, .int .i64 0, .string ⟨#[]⟩, .string ⟨#[]⟩, .int .i64 0, .string ⟨#[]⟩] 24)
  have hxw0 : Ext w (((w.alloc (.cells #[.string ⟨#[]⟩, .int .i64 0, .int .i64 0, .int .i64 0, .string ⟨#[]⟩, .string ⟨#[]⟩, .int .i64 0, .string ⟨#[]⟩] 24)).alloc (.cells #[.slice A n c, .int .i64 0, .int .i64 0] 80)).alloc (.cells #[.string ⟨#[]⟩, .int .i64 0, .int .i64 0, .int .i64 0, .string ⟨#[]⟩, .string ⟨#[]⟩, .int .i64 0, .string ⟨#[]⟩] 24)) := (((Keeps.refl _ _).alloc _).alloc _).alloc _
  generalize (((w.alloc (.cells #[.string ⟨#[]⟩, .int .i64 0, .int .i64 0, .int .i64 0, .string ⟨#[]⟩, .string ⟨#[]⟩, .int .i64 0, .string ⟨#[]⟩] 24)).alloc (.cells #[.slice A n c, .int .i64 0, .int .i64 0] 80)).alloc (.cells #[.string ⟨#[]⟩, .int .i64 0, .int .i64 0, .int .i64 0, .string ⟨#[]⟩, .string ⟨#[]⟩, .int .i64 0, .string ⟨#[]⟩] 24)) = W0 at *
  have HR0 := Lib.hid gR0
  have HB0 := Lib.hid (show RdAt W0 (w.heap.size + 1) A n c ⟨0, 0⟩ from gB0)
  have HE0 := Lib.hid gE0
  have HX0 := Lib.hid hxw0
  have hnk : ¬ ok (w.heap.size + 1) := fun h => by have := Hok.out _ h; omega
  clear gR0 gB0 gE0 hxw0
  refine (C0.out _ HB0.out (Hs.out.ext HX0.out) hnk).mono ?_
  rintro _ V0 ⟨rfl, hb, hk⟩
  have hE := hk.blk HE0.out (by omega)
  have q0 := blk_cell hE 3 rfl
  have f0 := blk_free hE
  go_wp2_with fail
  obtain ⟨W1, hW⟩ : ∃ W, W = V0.setCell ⟨w.heap.size + 1 + 1, 3, none⟩ (.int .i64 (kb : Int)) := ⟨_, rfl⟩
  rw [← hW]
  have hkE : Keeps (fun k => k ≠ w.heap.size + 1 + 1) V0 W1 := by rw [hW]; exact (Keeps.refl _ _).setCell (fun _ h => h rfl) _
  have HE1 := Lib.hid (show W1.heap[w.heap.size + 1 + 1]? = some (.cells #[.string ⟨#[]⟩, .int .i64 0, .int .i64 0, .int .i64 (kb : Int), .string ⟨#[]⟩, .string ⟨#[]⟩, .int .i64 0, .string ⟨#[]⟩] 24) by rw [hW]; exact blk_set hE 3 (.int .i64 (kb : Int)))
  have HB1 := Lib.hid (show RdAt W1 (w.heap.size + 1) A n c r0 from hb.keep hkE (by omega))
  have HR1 := Lib.hid (hkE.blk (hk.blk HR0.out (by omega)) (by omega))
  have HX1 := Lib.hid (show Ext w W1 from Keeps.then_ (Keeps.then_ HX0.out hk (fun i hi _ => by omega)) hkE (fun i hi _ => by omega))
  clear hb hk hE q0 f0 hW hkE HE0 HB0 HR0 HX0 C0
  refine (C1.out _ HB1.out (Hs.out.ext HX1.out) hnk).mono ?_
  rintro _ V1 ⟨rfl, hb, hk⟩
  have hE := hk.blk HE1.out (by omega)
  have q0 := blk_cell hE 0 rfl
  have f0 := blk_free hE
  go_wp2_with fail
  obtain ⟨W2, hW⟩ : ∃ W, W = V1.setCell ⟨w.heap.size + 1 + 1, 0, none⟩ (.string v1) := ⟨_, rfl⟩
  rw [← hW]
  have hkE : Keeps (fun k => k ≠ w.heap.size + 1 + 1) V1 W2 := by rw [hW]; exact (Keeps.refl _ _).setCell (fun _ h => h rfl) _
  have HE2 := Lib.hid (show W2.heap[w.heap.size + 1 + 1]? = some (.cells #[.string v1, .int .i64 0, .int .i64 0, .int .i64 (kb : Int), .string ⟨#[]⟩, .string ⟨#[]⟩, .int .i64 0, .string ⟨#[]⟩] 24) by rw [hW]; exact blk_set hE 0 (.string v1))
  have HB2 := Lib.hid (show RdAt W2 (w.heap.size + 1) A n c r1 from hb.keep hkE (by omega))
  have HR2 := Lib.hid (hkE.blk (hk.blk HR1.out (by omega)) (by omega))
  have HX2 := Lib.hid (show Ext w W2 from Keeps.then_ (Keeps.then_ HX1.out hk (fun i hi _ => by omega)) hkE (fun i hi _ => by omega))
  clear hb hk hE q0 f0 hW hkE HE1 HB1 HR1 HX1 C1
  refine (C2.out _ HB2.out (Hs.out.ext HX2.out) hnk).mono ?_
  rintro _ V2 ⟨rfl, hb, hk⟩
  have hE := hk.blk HE2.out (by omega)
  have q0 := blk_cell hE 1 rfl
  have f0 := blk_free hE
  go_wp2_with fail
  obtain ⟨W3, hW⟩ : ∃ W, W = V2.setCell ⟨w.heap.size + 1 + 1, 1, none⟩ (.int .i64 v2) := ⟨_, rfl⟩
  rw [← hW]
  have hkE : Keeps (fun k => k ≠ w.heap.size + 1 + 1) V2 W3 := by rw [hW]; exact (Keeps.refl _ _).setCell (fun _ h => h rfl) _
  have HE3 := Lib.hid (show W3.heap[w.heap.size + 1 + 1]? = some (.cells #[.string v1, .int .i64 v2, .int .i64 0, .int .i64 (kb : Int), .string ⟨#[]⟩, .string ⟨#[]⟩, .int .i64 0, .string ⟨#[]⟩] 24) by rw [hW]; exact blk_set hE 1 (.int .i64 v2))
  have HB3 := Lib.hid (show RdAt W3 (w.heap.size + 1) A n c r2 from hb.keep hkE (by omega))
  have HR3 := Lib.hid (hkE.blk (hk.blk HR2.out (by omega)) (by omega))
  have HX3 := Lib.hid (show Ext w W3 from Keeps.then_ (Keeps.then_ HX2.out hk (fun i hi _ => by omega)) hkE (fun i hi _ => by omega))
  clear hb hk hE q0 f0 hW hkE HE2 HB2 HR2 HX2 C2
  refine (C3.out _ HB3.out (Hs.out.ext HX3.out) hnk).mono ?_
  rintro _ V3 ⟨rfl, hb, hk⟩
  have hE := hk.blk HE3.out (by omega)
  have q0 := blk_cell hE 2 rfl
  have f0 := blk_free hE
  go_wp2_with fail
  obtain ⟨W4, hW⟩ : ∃ W, W = V3.setCell ⟨w.heap.size + 1 + 1, 2, none⟩ (.int .i64 v3) := ⟨_, rfl⟩
  rw [← hW]
  have hkE : Keeps (fun k => k ≠ w.heap.size + 1 + 1) V3 W4 := by rw [hW]; exact (Keeps.refl _ _).setCell (fun _ h => h rfl) _
  have HE4 := Lib.hid (show W4.heap[w.heap.size + 1 + 1]? = some (.cells #[.string v1, .int .i64 v2, .int .i64 v3, .int .i64 (kb : Int), .string ⟨#[]⟩, .string ⟨#[]⟩, .int .i64 0, .string ⟨#[]⟩] 24) by rw [hW]; exact blk_set hE 2 (.int .i64 v3))
  have HB4 := Lib.hid (show RdAt W4 (w.heap.size + 1) A n c r3 from hb.keep hkE (by omega))
  have HR4 := Lib.hid (hkE.blk (hk.blk HR3.out (by omega)) (by omega))
  have HX4 := Lib.hid (show Ext w W4 from Keeps.then_ (Keeps.then_ HX3.out hk (fun i hi _ => by omega)) hkE (fun i hi _ => by omega))
  clear hb hk hE q0 f0 hW hkE HE3 HB3 HR3 HX3 C3
  refine (C4.out _ HB4.out (Hs.out.ext HX4.out) hnk).mono ?_
  rintro _ V4 ⟨rfl, hb, hk⟩
  have hE := hk.blk HE4.out (by omega)
  have q0 := blk_cell hE 4 rfl
  have f0 := blk_free hE
  go_wp2_with fail
  obtain ⟨W5, hW⟩ : ∃ W, W = V4.setCell ⟨w.heap.size + 1 + 1, 4, none⟩ (.string v4) := ⟨_, rfl⟩
  rw [← hW]
  have hkE : Keeps (fun k => k ≠ w.heap.size + 1 + 1) V4 W5 := by rw [hW]; exact (Keeps.refl _ _).setCell (fun _ h => h rfl) _
  have HE5 := Lib.hid (show W5.heap[w.heap.size + 1 + 1]? = some (.cells #[.string v1, .int .i64 v2, .int .i64 v3, .int .i64 (kb : Int), .string v4, .string ⟨#[]⟩, .int .i64 0, .string ⟨#[]⟩] 24) by rw [hW]; exact blk_set hE 4 (.string v4))
  have HB5 := Lib.hid (show RdAt W5 (w.heap.size + 1) A n c r4 from hb.keep hkE (by omega))
  have HR5 := Lib.hid (hkE.blk (hk.blk HR4.out (by omega)) (by omega))
  have HX5 := Lib.hid (show Ext w W5 from Keeps.then_ (Keeps.then_ HX4.out hk (fun i hi _ => by omega)) hkE (fun i hi _ => by omega))
  clear hb hk hE q0 f0 hW hkE HE4 HB4 HR4 HX4 C4
  refine (C5.out _ HB5.out (Hs.out.ext HX5.out) hnk).mono ?_
  rintro _ V5 ⟨rfl, hb, hk⟩
  have hE := hk.blk HE5.out (by omega)
  have q0 := blk_cell hE 5 rfl
  have f0 := blk_free hE
  go_wp2_with fail
  obtain ⟨W6, hW⟩ : ∃ W, W = V5.setCell ⟨w.heap.size + 1 + 1, 5, none⟩ (.string v5) := ⟨_, rfl⟩
  rw [← hW]
  have hkE : Keeps (fun k => k ≠ w.heap.size + 1 + 1) V5 W6 := by rw [hW]; exact (Keeps.refl _ _).setCell (fun _ h => h rfl) _
  have HE6 := Lib.hid (show W6.heap[w.heap.size + 1 + 1]? = some (.cells #[.string v1, .int .i64 v2, .int .i64 v3, .int .i64 (kb : Int), .string v4, .string v5, .int .i64 0, .string ⟨#[]⟩] 24) by rw [hW]; exact blk_set hE 5 (.string v5))
  have HB6 := Lib.hid (show RdAt W6 (w.heap.size + 1) A n c r5 from hb.keep hkE (by omega))
  have HR6 := Lib.hid (hkE.blk (hk.blk HR5.out (by omega)) (by omega))
  have HX6 := Lib.hid (show Ext w W6 from Keeps.then_ (Keeps.then_ HX5.out hk (fun i hi _ => by omega)) hkE (fun i hi _ => by omega))
  clear hb hk hE q0 f0 hW hkE HE5 HB5 HR5 HX5 C5
  refine (C6.out _ HB6.out (Hs.out.ext HX6.out) hnk).mono ?_
  rintro _ V6 ⟨rfl, hb, hk⟩
  have hE := hk.blk HE6.out (by omega)
  have q0 := blk_cell hE 6 rfl
  have f0 := blk_free hE
  go_wp2_with fail
  obtain ⟨W7, hW⟩ : ∃ W, W = V6.setCell ⟨w.heap.size + 1 + 1, 6, none⟩ (.int .i64 v6) := ⟨_, rfl⟩
  rw [← hW]
  have hkE : Keeps (fun k => k ≠ w.heap.size + 1 + 1) V6 W7 := by rw [hW]; exact (Keeps.refl _ _).setCell (fun _ h => h rfl) _
  have HE7 := Lib.hid (show W7.heap[w.heap.size + 1 + 1]? = some (.cells #[.string v1, .int .i64 v2, .int .i64 v3, .int .i64 (kb : Int), .string v4, .string v5, .int .i64 v6, .string ⟨#[]⟩] 24) by rw [hW]; exact blk_set hE 6 (.int .i64 v6))
  have HB7 := Lib.hid (show RdAt W7 (w.heap.size + 1) A n c r6 from hb.keep hkE (by omega))
  have HR7 := Lib.hid (hkE.blk (hk.blk HR6.out (by omega)) (by omega))
  have HX7 := Lib.hid (show Ext w W7 from Keeps.then_ (Keeps.then_ HX6.out hk (fun i hi _ => by omega)) hkE (fun i hi _ => by omega))
  clear hb hk hE q0 f0 hW hkE HE6 HB6 HR6 HX6 C6
  refine (C7.out _ HB7.out (Hs.out.ext HX7.out) hnk).mono ?_
  rintro _ V7 ⟨rfl, hb, hk⟩
  have hE := hk.blk HE7.out (by omega)
  have q0 := blk_cell hE 7 rfl
  have f0 := blk_free hE
  go_upto_region 11 with fail
  obtain ⟨W8, hW⟩ : ∃ W, W = V7.setCell ⟨w.heap.size + 1 + 1, 7, none⟩ (.string v7) := ⟨_, rfl⟩
  rw [← hW]
  have hkE : Keeps (fun k => k ≠ w.heap.size + 1 + 1) V7 W8 := by rw [hW]; exact (Keeps.refl _ _).setCell (fun _ h => h rfl) _
  have HE8 := Lib.hid (show W8.heap[w.heap.size + 1 + 1]? = some (.cells #[.string v1, .int .i64 v2, .int .i64 v3, .int .i64 (kb : Int), .string v4, .string v5, .int .i64 v6, .string v7] 24) by rw [hW]; exact blk_set hE 7 (.string v7))
  have HB8 := Lib.hid (show RdAt W8 (w.heap.size + 1) A n c ⟨p7, e7⟩ from hb.keep hkE (by omega))
  have HR8 := Lib.hid (hkE.blk (hk.blk HR7.out (by omega)) (by omega))
  have HX8 := Lib.hid (show Ext w W8 from Keeps.then_ (Keeps.then_ HX7.out hk (fun i hi _ => by omega)) hkE (fun i hi _ => by omega))
  clear hb hk hE q0 f0 hW hkE HE7 HB7 HR7 HX7 C7
  have eb := blk_cell HB8.out 2 rfl
  have pb := blk_cell HB8.out 1 rfl
  have d0 := blk_cell HE8.out 0 rfl
  have d1 := blk_cell HE8.out 1 rfl
  have d2 := blk_cell HE8.out 2 rfl
  have d3 := blk_cell HE8.out 3 rfl
  have d4 := blk_cell HE8.out 4 rfl
  have d5 := blk_cell HE8.out 5 rfl
  have d6 := blk_cell HE8.out 6 rfl
  have d7 := blk_cell HE8.out 7 rfl
  have fb := blk_free HB8.out
  have z0 := blk_cell HR8.out 0 rfl
  have z1 := blk_cell HR8.out 1 rfl
  have z2 := blk_cell HR8.out 2 rfl
  have z3 := blk_cell HR8.out 3 rfl
  have z4 := blk_cell HR8.out 4 rfl
  have z5 := blk_cell HR8.out 5 rfl
  have z6 := blk_cell HR8.out 6 rfl
  have z7 := blk_cell HR8.out 7 rfl
  have fz := blk_free HR8.out
  have hneq : w.heap.size ≠ w.heap.size + 1 := by omega
  by_cases he : e7 = 0
  · subst he
    cases hmay : mayE (⟨v1, v2, v3, (kb : Int), v4, v5, v6, v7⟩ : Ev)
    · have HdE := Lib.hid (show decE bs = (zeroE, 0, 2) by unfold decE; rw [HD.out, if_neg (by simp), if_neg (by rw [hmay]; decide)])
      go_wp2_with (go_at_call 19; refine (ev_May (⟨v1, v2, v3, (kb : Int), v4, v5, v6, v7⟩ : Ev) _ HSm.out (Hm.out.ext HX8.out)).mono ?_; rw [hmay]; rintro _ V9 ⟨rfl, hx9⟩; clear eb pb fb d0 d1 d2 d3 d4 d5 d6 d7 z0 z1 z2 z3 z4 z5 z6 z7 fz; have hb9 : V9.heap[w.heap.size + 1]? = _ := hx9.blk HB8.out; have eb := blk_cell hb9 2 rfl; have pb := blk_cell hb9 1 rfl; have fb := blk_free hb9; have hE9 := hx9.blk HE8.out; have d0 := blk_cell hE9 0 rfl; have d1 := blk_cell hE9 1 rfl; have d2 := blk_cell hE9 2 rfl; have d3 := blk_cell hE9 3 rfl; have d4 := blk_cell hE9 4 rfl; have d5 := blk_cell hE9 5 rfl; have d6 := blk_cell hE9 6 rfl; have d7 := blk_cell hE9 7 rfl; have hR9 := hx9.blk HR8.out; have z0 := blk_cell hR9 0 rfl; have z1 := blk_cell hR9 1 rfl; have z2 := blk_cell hR9 2 rfl; have z3 := blk_cell hR9 3 rfl; have z4 := blk_cell hR9 4 rfl; have z5 := blk_cell hR9 5 rfl; have z6 := blk_cell hR9 6 rfl; have z7 := blk_cell hR9 7 rfl; have fz := blk_free hR9; have HR9 := Lib.hid hR9; have HB9 := Lib.hid hb9; have HX9 := Lib.hid (Keeps.trans HX8.out hx9); clear hx9 hb9 hE9 hR9)
      go_region
      go_wp2_with fail
      refine bodyPost_ret (v := .tuple #[.agg #[.string ⟨#[]⟩, .int .i64 0, .int .i64 0, .int .i64 0, .string ⟨#[]⟩, .string ⟨#[]⟩, .int .i64 0, .string ⟨#[]⟩], .int .i64 0, .int .i64 2]) (by simp [results, Tryd.results34, go_sem, *]) rfl ⟨by rw [HdE.out]; rfl, ?_⟩
      have hx := HX9.out
      repeat (first | with_reducible exact hx | with_reducible exact Keeps.refl _ _ | with_reducible refine Keeps.drew ?_ | with_reducible refine Keeps.drewN ?_ _ | with_reducible refine Keeps.alloc ?_ _ | with_reducible refine Keeps.setCell ?_ (by first | (intro h; simp at h; done) | (intro _; simp; done) | (intro _; simp; omega) | (intro h; simp at h; omega)) _)
    · have HdE := Lib.hid (show decE bs = ((⟨v1, v2, v3, (kb : Int), v4, v5, v6, v7⟩ : Ev), (p7 : Int), 0) by unfold decE; rw [HD.out, if_neg (by simp), if_pos hmay])
      go_wp2_with (go_at_call 19; refine (ev_May (⟨v1, v2, v3, (kb : Int), v4, v5, v6, v7⟩ : Ev) _ HSm.out (Hm.out.ext HX8.out)).mono ?_; rw [hmay]; rintro _ V9 ⟨rfl, hx9⟩; clear eb pb fb d0 d1 d2 d3 d4 d5 d6 d7 z0 z1 z2 z3 z4 z5 z6 z7 fz; have hb9 : V9.heap[w.heap.size + 1]? = _ := hx9.blk HB8.out; have eb := blk_cell hb9 2 rfl; have pb := blk_cell hb9 1 rfl; have fb := blk_free hb9; have hE9 := hx9.blk HE8.out; have d0 := blk_cell hE9 0 rfl; have d1 := blk_cell hE9 1 rfl; have d2 := blk_cell hE9 2 rfl; have d3 := blk_cell hE9 3 rfl; have d4 := blk_cell hE9 4 rfl; have d5 := blk_cell hE9 5 rfl; have d6 := blk_cell hE9 6 rfl; have d7 := blk_cell hE9 7 rfl; have hR9 := hx9.blk HR8.out; have z0 := blk_cell hR9 0 rfl; have z1 := blk_cell hR9 1 rfl; have z2 := blk_cell hR9 2 rfl; have z3 := blk_cell hR9 3 rfl; have z4 := blk_cell hR9 4 rfl; have z5 := blk_cell hR9 5 rfl; have z6 := blk_cell hR9 6 rfl; have z7 := blk_cell hR9 7 rfl; have fz := blk_free hR9; have HR9 := Lib.hid hR9; have HB9 := Lib.hid hb9; have HX9 := Lib.hid (Keeps.trans HX8.out hx9); clear hx9 hb9 hE9 hR9)
      go_region
      go_wp2_with fail
      refine bodyPost_ret (v := .tuple #[.agg #[.string v1, .int .i64 v2, .int .i64 v3, .int .i64 (kb : Int), .string v4, .string v5, .int .i64 v6, .string v7], .int .i64 (p7 : Int), .int .i64 0]) (by simp [results, Tryd.results34, go_sem, *]) rfl ⟨by rw [HdE.out]; rfl, ?_⟩
      have hx := HX9.out
      repeat (first | with_reducible exact hx | with_reducible exact Keeps.refl _ _ | with_reducible refine Keeps.drew ?_ | with_reducible refine Keeps.drewN ?_ _ | with_reducible refine Keeps.alloc ?_ _ | with_reducible refine Keeps.setCell ?_ (by first | (intro h; simp at h; done) | (intro _; simp; done) | (intro _; simp; omega) | (intro h; simp at h; omega)) _)
  · have h0 : (e7 != 0) = true := by simpa using he
    have h1 : (e7 == 0) = false := by simpa using he
    have HdE := Lib.hid (show decE bs = (zeroE, 0, e7) by unfold decE; rw [HD.out, if_pos he])
    clear he
    go_wp2_with fail
    go_region
    go_wp2_with fail
    refine bodyPost_ret (v := .tuple #[.agg #[.string ⟨#[]⟩, .int .i64 0, .int .i64 0, .int .i64 0, .string ⟨#[]⟩, .string ⟨#[]⟩, .int .i64 0, .string ⟨#[]⟩], .int .i64 0, .int .i64 e7]) (by simp [results, Tryd.results34, go_sem, *]) rfl ⟨by rw [HdE.out]; rfl, ?_⟩
    have hx := HX8.out
    repeat (first | with_reducible exact hx | with_reducible exact Keeps.refl _ _ | with_reducible refine Keeps.drew ?_ | with_reducible refine Keeps.drewN ?_ _ | with_reducible refine Keeps.alloc ?_ _ | with_reducible refine Keeps.setCell ?_ (by first | (intro h; simp at h; done) | (intro _; simp; done) | (intro _; simp; omega) | (intro h; simp at h; omega)) _)
end Go.Proofs.YtihdeidaekheoaaDoor
