/-
  What is proved here: the document's Decode of bytes is what the plain functions say. Conditions: at most 100,000 bytes.
-/
import Derived.Test.YtihdeidaekheoaaDoorEvRTake
import Derived.Test.YtihdeidaekheoaaDoorEvRMay
import Derived.Deep.RegionWith
namespace Go.Proofs.YtihdeidaekheoaaDoor
open Go Go.RowKit Go.Proofs
attribute [local go_sem ↓] Go.wp_at_zero Go.wp_at_succ
def decK (bs : List UInt8) : Nat → Dec
  | 0 => dec0 bs
  | 1 => dec1 bs
  | 2 => dec2 bs
  | 3 => dec3 bs
  | 4 => dec4 bs
  | 5 => dec5 bs
  | 6 => dec6 bs
  | _ => dec7 bs
theorem rText_err {bs : List UInt8} {p : Nat} (h : (rText bs ⟨p, 0⟩).2.err ≠ 0) : (rText bs ⟨p, 0⟩).2.err = 3 := by
  unfold rText at h ⊢
  have h1 : (rOne bs ⟨p, 0⟩).2.err = 0 ∨ (rOne bs ⟨p, 0⟩).2.err = 3 := by
    unfold rOne
    rw [if_neg (by simp)]
    split
    · exact .inr rfl
    · exact .inl rfl
  simp only at h ⊢
  rcases h1 with h1 | h1
  · rw [if_neg (by simp [h1])] at h ⊢
    split
    · rfl
    · rename_i h2; rw [if_neg h2] at h; exact absurd rfl h
  · rw [if_pos (by rw [h1]; decide)]; exact h1
theorem decK_torn {bs : List UInt8} {k : Nat} (hk : k ≤ 7) (h : (decK bs k).r.err ≠ 0) : decE bs = (zeroE, 0, (decK bs k).r.err) := by
  have s1 : (dec0 bs).r.err ≠ 0 → (dec1 bs).r = (dec0 bs).r := fun h => rText_RF.err bs _ h
  have s2 : (dec1 bs).r.err ≠ 0 → (dec2 bs).r = (dec1 bs).r := fun h => rNum_RF.err bs _ h
  have s3 : (dec2 bs).r.err ≠ 0 → (dec3 bs).r = (dec2 bs).r := fun h => rNum_RF.err bs _ h
  have s4 : (dec3 bs).r.err ≠ 0 → (dec4 bs).r = (dec3 bs).r := fun h => rText_RF.err bs _ h
  have s5 : (dec4 bs).r.err ≠ 0 → (dec5 bs).r = (dec4 bs).r := fun h => rText_RF.err bs _ h
  have s6 : (dec5 bs).r.err ≠ 0 → (dec6 bs).r = (dec5 bs).r := fun h => rNum_RF.err bs _ h
  have s7 : (dec6 bs).r.err ≠ 0 → (dec7 bs).r = (dec6 bs).r := fun h => rText_RF.err bs _ h
  have key : (dec7 bs).r = (decK bs k).r := by
    rcases (by omega : k = 0 ∨ k = 1 ∨ k = 2 ∨ k = 3 ∨ k = 4 ∨ k = 5 ∨ k = 6 ∨ k = 7) with rfl | rfl | rfl | rfl | rfl | rfl | rfl | rfl <;> simp only [decK] at h ⊢
    · have a1 := s1 h; have b1 : (dec1 bs).r.err ≠ 0 := by rw [a1]; exact h
      have a2 := s2 b1; have b2 : (dec2 bs).r.err ≠ 0 := by rw [a2]; exact b1
      have a3 := s3 b2; have b3 : (dec3 bs).r.err ≠ 0 := by rw [a3]; exact b2
      have a4 := s4 b3; have b4 : (dec4 bs).r.err ≠ 0 := by rw [a4]; exact b3
      have a5 := s5 b4; have b5 : (dec5 bs).r.err ≠ 0 := by rw [a5]; exact b4
      have a6 := s6 b5; have b6 : (dec6 bs).r.err ≠ 0 := by rw [a6]; exact b5
      rw [s7 b6, a6, a5, a4, a3, a2, a1]
    · have a2 := s2 h; have b2 : (dec2 bs).r.err ≠ 0 := by rw [a2]; exact h
      have a3 := s3 b2; have b3 : (dec3 bs).r.err ≠ 0 := by rw [a3]; exact b2
      have a4 := s4 b3; have b4 : (dec4 bs).r.err ≠ 0 := by rw [a4]; exact b3
      have a5 := s5 b4; have b5 : (dec5 bs).r.err ≠ 0 := by rw [a5]; exact b4
      have a6 := s6 b5; have b6 : (dec6 bs).r.err ≠ 0 := by rw [a6]; exact b5
      rw [s7 b6, a6, a5, a4, a3, a2]
    · have a3 := s3 h; have b3 : (dec3 bs).r.err ≠ 0 := by rw [a3]; exact h
      have a4 := s4 b3; have b4 : (dec4 bs).r.err ≠ 0 := by rw [a4]; exact b3
      have a5 := s5 b4; have b5 : (dec5 bs).r.err ≠ 0 := by rw [a5]; exact b4
      have a6 := s6 b5; have b6 : (dec6 bs).r.err ≠ 0 := by rw [a6]; exact b5
      rw [s7 b6, a6, a5, a4, a3]
    · have a4 := s4 h; have b4 : (dec4 bs).r.err ≠ 0 := by rw [a4]; exact h
      have a5 := s5 b4; have b5 : (dec5 bs).r.err ≠ 0 := by rw [a5]; exact b4
      have a6 := s6 b5; have b6 : (dec6 bs).r.err ≠ 0 := by rw [a6]; exact b5
      rw [s7 b6, a6, a5, a4]
    · have a5 := s5 h; have b5 : (dec5 bs).r.err ≠ 0 := by rw [a5]; exact h
      have a6 := s6 b5; have b6 : (dec6 bs).r.err ≠ 0 := by rw [a6]; exact b5
      rw [s7 b6, a6, a5]
    · have a6 := s6 h; have b6 : (dec6 bs).r.err ≠ 0 := by rw [a6]; exact h
      rw [s7 b6, a6]
    · exact s7 h
  unfold decE
  rw [key, if_pos h]
theorem dec0_at {bs : List UInt8} {x : UInt8} (h : bs[0]? = some x) : dec0 bs = ⟨x, ⟨⟨#[]⟩, 0, 0, (x.toNat : Int), ⟨#[]⟩, ⟨#[]⟩, 0, ⟨#[]⟩⟩, ⟨1, 0⟩⟩ := by
  unfold dec0
  rw [rOne_byte h]
theorem decK_le {bs : List UInt8} (k : Nat) : (decK bs k).r.pos ≤ bs.length := by
  have q0 : (dec0 bs).r.pos ≤ bs.length := rOne_le (bs := bs) (r := ⟨0, 0⟩) (Nat.zero_le _)
  have q1 : (dec1 bs).r.pos ≤ bs.length := rText_le q0
  have q2 : (dec2 bs).r.pos ≤ bs.length := rNum_le 6 0 0 q1
  have q3 : (dec3 bs).r.pos ≤ bs.length := rNum_le 6 0 0 q2
  have q4 : (dec4 bs).r.pos ≤ bs.length := rText_le q3
  have q5 : (dec5 bs).r.pos ≤ bs.length := rText_le q4
  have q6 : (dec6 bs).r.pos ≤ bs.length := rNum_le 6 0 0 q5
  have q7 : (dec7 bs).r.pos ≤ bs.length := rText_le q6
  unfold decK
  split <;> assumption
theorem decK_sm {bs : List UInt8} : EvSm (dec7 bs).e := by
  have h : ∀ r : Rd, (bts (rText bs r).1).size ≤ 999999 := fun r => by rw [bts_size]; have := rText_size (bs := bs) (r := r); omega
  exact ⟨h _, h _, h _, h _⟩

set_option maxRecDepth 100000 in
set_option maxHeartbeats 16000000 in
theorem ref_Decode (A : Option Addr) (n c : Nat) (bs : List UInt8) (ok : Nat → Prop) (w : World) (hs : Sl byteR ok w A n bs) (hn : n ≤ 100000) (hnc : n ≤ c) :
    Calls Tryd.prog 35 #[.slice A n c] w (DecPost bs w) := by
  rcases Nat.eq_zero_or_pos n with rfl | hn1
  · obtain rfl : bs = [] := List.eq_nil_of_length_eq_zero hs.1
    clear hs
    go_enter Tryd.func35, Tryd.ntmps35
    go_wp2_with fail
    refine bodyPost_ret (v := .tuple #[.agg #[.string ⟨#[]⟩, .int .i64 0, .int .i64 0, .int .i64 0, .string ⟨#[]⟩, .string ⟨#[]⟩, .int .i64 0, .string ⟨#[]⟩], .int .i64 0, .int .i64 3]) (by simp [results, Tryd.results35, go_sem, *]) rfl ⟨rfl, ?_⟩
    repeat (first | with_reducible exact Keeps.refl _ _ | with_reducible exact Keeps.refl _ _ | with_reducible refine Keeps.drew ?_ | with_reducible refine Keeps.drewN ?_ _ | with_reducible refine Keeps.alloc ?_ _ | with_reducible refine Keeps.setCell ?_ (by first | (intro h; simp at h; done) | (intro _; simp; done) | (intro _; simp; omega) | (intro h; simp at h; omega)) _)
  obtain ⟨b, o, x, rfl, hb, hob, hx, hc⟩ := hs.byte hn1
  have hx256 := x.toNat_lt
  obtain ⟨k0, hk0⟩ : ∃ k0, k0 = x.toNat := ⟨_, rfl⟩
  have hD0 := dec0_at hx
  rw [← hk0] at hc hx256 hD0
  simp only [Nat.add_zero] at hc
  have z1 : ((n : Int) == 0) = false := by rw [beq_eq_false_iff_ne]; omega
  have z2 : (0 : Int) < (n : Int) := by omega
  have Hl := Lib.hid hs.1
  have Hs := Lib.hid hs
  have HD0 := Lib.hid hD0
  clear hs hx hk0 hD0 hob
  go_enter Tryd.func35, Tryd.ntmps35
  go_wp2_with fail
  clear hc
  go_loopw [7, 8, 9] (fun at_ cd i wr => ∃ k : Nat, k ≤ 7 ∧ i = .int .i64 k ∧ at_ = .int .i64 ((decK bs k).r.pos : Int) ∧ cd = .int .i64 0 ∧ (decK bs k).r.err = 0 ∧ wr.heap[w.heap.size]? = some (.cells #[.string ⟨#[]⟩, .int .i64 0, .int .i64 0, .int .i64 0, .string ⟨#[]⟩, .string ⟨#[]⟩, .int .i64 0, .string ⟨#[]⟩] 24) ∧ wr.heap[w.heap.size + 1]? = some (.cells #[.string ⟨#[]⟩, .int .i64 0, .int .i64 0, .int .i64 0, .string ⟨#[]⟩, .string ⟨#[]⟩, .int .i64 0, .string ⟨#[]⟩] 24) ∧ wr.heap[w.heap.size + 1 + 1]? = some (.cells (evC (decK bs k).e) 24) ∧ Ext w wr) (fun _ _ i _ => 7 - (intOf i).toNat)
  case atStart =>
    obtain ⟨g0, g1, g2⟩ := three_new w (.cells #[.string ⟨#[]⟩, .int .i64 0, .int .i64 0, .int .i64 0, .string ⟨#[]⟩, .string ⟨#[]⟩, .int .i64 0, .string ⟨#[]⟩] 24) (.cells #[.string ⟨#[]⟩, .int .i64 0, .int .i64 0, .int .i64 0, .string ⟨#[]⟩, .string ⟨#[]⟩, .int .i64 0, .string ⟨#[]⟩] 24) (.cells #[.string ⟨#[]⟩, .int .i64 0, .int .i64 0, .int .i64 (k0 : Int), .string ⟨#[]⟩, .string ⟨#[]⟩, .int .i64 0, .string ⟨#[]⟩] 24)
    refine ⟨0, by omega, rfl, ?_, rfl, ?_, g0, g1, ?_, (((Keeps.refl _ _).alloc _).alloc _).alloc _⟩
    · simp only [decK, HD0.out]; rfl
    · simp only [decK, HD0.out]
    · simp only [decK, HD0.out, evC]; exact g2
  case round =>
    obtain ⟨k, hk, rfl, rfl, rfl, he, hR, hN, hE, hxw⟩ := hrel
    have hpn := decK_le (bs := bs) k
    rw [Hl.out] at hpn
    have hn1' : w.heap.size ≠ w.heap.size + 1 := by omega
    have HR := Lib.hid hR
    have HN := Lib.hid hN
    have HE := Lib.hid hE
    have HX := Lib.hid hxw
    have HSl := Lib.hid (Hs.out.ext hxw)
    clear hR hN hE hxw
    rcases (by omega : k = 0 ∨ k = 1 ∨ k = 2 ∨ k = 3 ∨ k = 4 ∨ k = 5 ∨ k = 6 ∨ k = 7) with rfl | rfl | rfl | rfl | rfl | rfl | rfl | rfl
    · obtain ⟨d, hd⟩ : ∃ d, d = decK bs 0 := ⟨_, rfl⟩
      rw [← hd] at he hpn HE ⊢
      obtain ⟨dk, ⟨src, num, tick, kind, person, item, value, text⟩, ⟨p, er⟩⟩ := d
      simp only at he hpn HE ⊢
      subst he
      obtain ⟨y, hy⟩ : ∃ y, y = rText bs ⟨p, 0⟩ := ⟨_, rfl⟩
      have HE' := Lib.hid (show wr.heap[w.heap.size + 1 + 1]? = some (.cells #[.string src, .int .i64 num, .int .i64 tick, .int .i64 kind, .string person, .string item, .int .i64 value, .string text] 24) from HE.out)
      have q0 := blk_cell HE'.out 0 rfl
      have f0 := blk_free HE'.out
      have CT := Lib.hid (fun (W : World) (h : Sl byteR ok W (some ⟨b, o, none⟩) n bs) => show Calls Tryd.prog 67 #[.slice (some ⟨b, o, none⟩) n c, .int .i64 (p : Int)] W (fun r w' => r = .returned (takeV y) ∧ W = w') by rw [hy]; exact ref_take _ n c bs p ok W h (by omega) hnc hpn)
      have Hnx := Lib.hid (show decK bs 1 = ⟨dk, ⟨bts y.1, num, tick, kind, person, item, value, text⟩, y.2⟩ by rw [show decK bs 1 = decS1 bs (decK bs 0) from rfl, ← hd, hy]; rfl)
      by_cases hz : y.2.err = 0
      · have hV : takeV y = .tuple #[.string (bts y.1), .int .i64 (y.2.pos : Int)] := by unfold takeV; rw [if_pos hz]
        obtain ⟨ps, hps⟩ : ∃ ps, ps = y.2.pos := ⟨_, rfl⟩
        rw [← hps] at hV
        obtain ⟨v, hv⟩ : ∃ v, v = bts y.1 := ⟨_, rfl⟩
        rw [← hv] at hV Hnx
        have Hz := Lib.hid hz
        have Hps := Lib.hid hps
        clear hd hy hz hps hv
        go_wp2_with (go_at_call 67; refine (CT.out _ HSl.out).mono ?_; rw [hV]; rintro _ _ ⟨rfl, rfl⟩)
        go_roundw
        case rel =>
          have hkE : Keeps (fun k => k ≠ w.heap.size + 1 + 1) wr (wr.setCell ⟨w.heap.size + 1 + 1, 0, none⟩ (.string v)) := (Keeps.refl _ _).setCell (fun _ h => h rfl) _
          refine ⟨1, by omega, by go_num, by rw [Hnx.out]; simp [Hps.out], rfl, by rw [Hnx.out]; exact Hz.out, hkE.blk HR.out (by omega), hkE.blk HN.out (by omega), ?_, Keeps.then_ HX.out hkE (fun i hi _ => by omega)⟩
          rw [Hnx.out]; exact blk_set HE'.out 0 (.string v)
        case measure => simp [intOf]
      · have hV : takeV y = .tuple #[.string ⟨#[]⟩, .int .i64 (-1)] := by unfold takeV; rw [if_neg hz]
        have he3 : y.2.err = 3 := by rw [hy] at hz ⊢; exact rText_err hz
        have HdE := Lib.hid (show decE bs = (zeroE, 0, 3) by have h9 := decK_torn (bs := bs) (k := 1) (by omega) (by rw [Hnx.out]; exact hz); rw [Hnx.out, he3] at h9; exact h9)
        clear hd hy hz
        have z0' := blk_cell HN.out 0 rfl
        have z1' := blk_cell HN.out 1 rfl
        have z2' := blk_cell HN.out 2 rfl
        have z3' := blk_cell HN.out 3 rfl
        have z4' := blk_cell HN.out 4 rfl
        have z5' := blk_cell HN.out 5 rfl
        have z6' := blk_cell HN.out 6 rfl
        have z7' := blk_cell HN.out 7 rfl
        have rr0 := blk_cell HR.out 0 rfl
        have rr1 := blk_cell HR.out 1 rfl
        have rr2 := blk_cell HR.out 2 rfl
        have rr3 := blk_cell HR.out 3 rfl
        have rr4 := blk_cell HR.out 4 rfl
        have rr5 := blk_cell HR.out 5 rfl
        have rr6 := blk_cell HR.out 6 rfl
        have rr7 := blk_cell HR.out 7 rfl
        have fz := blk_free HR.out
        have hn2' : w.heap.size + 1 ≠ w.heap.size + 1 + 1 := by omega
        have hn3' : w.heap.size ≠ w.heap.size + 1 + 1 := by omega
        go_wp2_with (go_at_call 67; refine (CT.out _ HSl.out).mono ?_; rw [hV]; rintro _ _ ⟨rfl, rfl⟩)
        refine bodyPost_ret (v := .tuple #[.agg #[.string ⟨#[]⟩, .int .i64 0, .int .i64 0, .int .i64 0, .string ⟨#[]⟩, .string ⟨#[]⟩, .int .i64 0, .string ⟨#[]⟩], .int .i64 0, .int .i64 3]) (by simp [results, Tryd.results35, go_sem, *]) rfl ⟨by rw [HdE.out]; rfl, ?_⟩
        have hx := HX.out
        repeat (first | with_reducible exact hx | with_reducible exact Keeps.refl _ _ | with_reducible refine Keeps.drew ?_ | with_reducible refine Keeps.drewN ?_ _ | with_reducible refine Keeps.alloc ?_ _ | with_reducible refine Keeps.setCell ?_ (by first | (intro h; simp at h; done) | (intro _; simp; done) | (intro _; simp; omega) | (intro h; simp at h; omega)) _)
    · obtain ⟨d, hd⟩ : ∃ d, d = decK bs 1 := ⟨_, rfl⟩
      rw [← hd] at he hpn HE ⊢
      obtain ⟨dk, ⟨src, num, tick, kind, person, item, value, text⟩, ⟨p, er⟩⟩ := d
      simp only at he hpn HE ⊢
      subst he
      obtain ⟨y, hy⟩ : ∃ y, y = rNum bs 6 0 0 ⟨p, 0⟩ := ⟨_, rfl⟩
      have HE' := Lib.hid (show wr.heap[w.heap.size + 1 + 1]? = some (.cells #[.string src, .int .i64 num, .int .i64 tick, .int .i64 kind, .string person, .string item, .int .i64 value, .string text] 24) from HE.out)
      have q0 := blk_cell HE'.out 1 rfl
      have f0 := blk_free HE'.out
      have CT := Lib.hid (fun (W : World) (h : Sl byteR ok W (some ⟨b, o, none⟩) n bs) => show Calls Tryd.prog 68 #[.slice (some ⟨b, o, none⟩) n c, .int .i64 (p : Int)] W (fun r w' => r = .returned (countV y) ∧ W = w') by rw [hy]; exact ref_count _ n c bs p ok W h (by omega) hpn)
      have Hnx := Lib.hid (show decK bs 2 = ⟨dk, ⟨src, (y.1 : Int), tick, kind, person, item, value, text⟩, y.2⟩ by rw [show decK bs 2 = decS2 bs (decK bs 1) from rfl, ← hd, hy]; rfl)
      by_cases hz : y.2.err = 0
      · have hV : countV y = .tuple #[.int .i64 (y.1 : Int), .int .i64 (y.2.pos : Int), .int .i64 0] := by unfold countV; rw [if_pos hz]
        obtain ⟨ps, hps⟩ : ∃ ps, ps = y.2.pos := ⟨_, rfl⟩
        rw [← hps] at hV
        obtain ⟨v, hv⟩ : ∃ v : Int, v = (y.1 : Int) := ⟨_, rfl⟩
        rw [← hv] at hV Hnx
        have Hz := Lib.hid hz
        have Hps := Lib.hid hps
        clear hd hy hz hps hv
        go_wp2_with (go_at_call 68; refine (CT.out _ HSl.out).mono ?_; rw [hV]; rintro _ _ ⟨rfl, rfl⟩)
        go_roundw
        case rel =>
          have hkE : Keeps (fun k => k ≠ w.heap.size + 1 + 1) wr (wr.setCell ⟨w.heap.size + 1 + 1, 1, none⟩ (.int .i64 v)) := (Keeps.refl _ _).setCell (fun _ h => h rfl) _
          refine ⟨2, by omega, by go_num, by rw [Hnx.out]; simp [Hps.out], rfl, by rw [Hnx.out]; exact Hz.out, hkE.blk HR.out (by omega), hkE.blk HN.out (by omega), ?_, Keeps.then_ HX.out hkE (fun i hi _ => by omega)⟩
          rw [Hnx.out]; exact blk_set HE'.out 1 (.int .i64 v)
        case measure => simp [intOf]
      · obtain ⟨er, her⟩ : ∃ er, er = y.2.err := ⟨_, rfl⟩
        have hV : countV y = .tuple #[.int .i64 0, .int .i64 0, .int .i64 er] := by unfold countV; rw [if_neg hz, her]
        have HdE := Lib.hid (show decE bs = (zeroE, 0, er) by have h9 := decK_torn (bs := bs) (k := 2) (by omega) (by rw [Hnx.out]; exact hz); rw [Hnx.out] at h9; rw [her]; exact h9)
        have hz1 : (er == 0) = false := by rw [her]; simpa using hz
        have hz2 : (er != 0) = true := by rw [her]; simpa using hz
        clear hd hy hz
        have z0' := blk_cell HN.out 0 rfl
        have z1' := blk_cell HN.out 1 rfl
        have z2' := blk_cell HN.out 2 rfl
        have z3' := blk_cell HN.out 3 rfl
        have z4' := blk_cell HN.out 4 rfl
        have z5' := blk_cell HN.out 5 rfl
        have z6' := blk_cell HN.out 6 rfl
        have z7' := blk_cell HN.out 7 rfl
        have rr0 := blk_cell HR.out 0 rfl
        have rr1 := blk_cell HR.out 1 rfl
        have rr2 := blk_cell HR.out 2 rfl
        have rr3 := blk_cell HR.out 3 rfl
        have rr4 := blk_cell HR.out 4 rfl
        have rr5 := blk_cell HR.out 5 rfl
        have rr6 := blk_cell HR.out 6 rfl
        have rr7 := blk_cell HR.out 7 rfl
        have fz := blk_free HR.out
        have hn2' : w.heap.size + 1 ≠ w.heap.size + 1 + 1 := by omega
        have hn3' : w.heap.size ≠ w.heap.size + 1 + 1 := by omega
        go_wp2_with (go_at_call 68; refine (CT.out _ HSl.out).mono ?_; rw [hV]; rintro _ _ ⟨rfl, rfl⟩)
        refine bodyPost_ret (v := .tuple #[.agg #[.string ⟨#[]⟩, .int .i64 0, .int .i64 0, .int .i64 0, .string ⟨#[]⟩, .string ⟨#[]⟩, .int .i64 0, .string ⟨#[]⟩], .int .i64 0, .int .i64 er]) (by simp [results, Tryd.results35, go_sem, *]) rfl ⟨by rw [HdE.out]; rfl, ?_⟩
        have hx := HX.out
        repeat (first | with_reducible exact hx | with_reducible exact Keeps.refl _ _ | with_reducible refine Keeps.drew ?_ | with_reducible refine Keeps.drewN ?_ _ | with_reducible refine Keeps.alloc ?_ _ | with_reducible refine Keeps.setCell ?_ (by first | (intro h; simp at h; done) | (intro _; simp; done) | (intro _; simp; omega) | (intro h; simp at h; omega)) _)
    · obtain ⟨d, hd⟩ : ∃ d, d = decK bs 2 := ⟨_, rfl⟩
      rw [← hd] at he hpn HE ⊢
      obtain ⟨dk, ⟨src, num, tick, kind, person, item, value, text⟩, ⟨p, er⟩⟩ := d
      simp only at he hpn HE ⊢
      subst he
      obtain ⟨y, hy⟩ : ∃ y, y = rNum bs 6 0 0 ⟨p, 0⟩ := ⟨_, rfl⟩
      have HE' := Lib.hid (show wr.heap[w.heap.size + 1 + 1]? = some (.cells #[.string src, .int .i64 num, .int .i64 tick, .int .i64 kind, .string person, .string item, .int .i64 value, .string text] 24) from HE.out)
      have q0 := blk_cell HE'.out 2 rfl
      have f0 := blk_free HE'.out
      have CT := Lib.hid (fun (W : World) (h : Sl byteR ok W (some ⟨b, o, none⟩) n bs) => show Calls Tryd.prog 68 #[.slice (some ⟨b, o, none⟩) n c, .int .i64 (p : Int)] W (fun r w' => r = .returned (countV y) ∧ W = w') by rw [hy]; exact ref_count _ n c bs p ok W h (by omega) hpn)
      have Hnx := Lib.hid (show decK bs 3 = ⟨dk, ⟨src, num, (y.1 : Int), kind, person, item, value, text⟩, y.2⟩ by rw [show decK bs 3 = decS3 bs (decK bs 2) from rfl, ← hd, hy]; rfl)
      by_cases hz : y.2.err = 0
      · have hV : countV y = .tuple #[.int .i64 (y.1 : Int), .int .i64 (y.2.pos : Int), .int .i64 0] := by unfold countV; rw [if_pos hz]
        obtain ⟨ps, hps⟩ : ∃ ps, ps = y.2.pos := ⟨_, rfl⟩
        rw [← hps] at hV
        obtain ⟨v, hv⟩ : ∃ v : Int, v = (y.1 : Int) := ⟨_, rfl⟩
        rw [← hv] at hV Hnx
        have Hz := Lib.hid hz
        have Hps := Lib.hid hps
        clear hd hy hz hps hv
        go_wp2_with (go_at_call 68; refine (CT.out _ HSl.out).mono ?_; rw [hV]; rintro _ _ ⟨rfl, rfl⟩)
        go_roundw
        case rel =>
          have hkE : Keeps (fun k => k ≠ w.heap.size + 1 + 1) wr (wr.setCell ⟨w.heap.size + 1 + 1, 2, none⟩ (.int .i64 v)) := (Keeps.refl _ _).setCell (fun _ h => h rfl) _
          refine ⟨3, by omega, by go_num, by rw [Hnx.out]; simp [Hps.out], rfl, by rw [Hnx.out]; exact Hz.out, hkE.blk HR.out (by omega), hkE.blk HN.out (by omega), ?_, Keeps.then_ HX.out hkE (fun i hi _ => by omega)⟩
          rw [Hnx.out]; exact blk_set HE'.out 2 (.int .i64 v)
        case measure => simp [intOf]
      · obtain ⟨er, her⟩ : ∃ er, er = y.2.err := ⟨_, rfl⟩
        have hV : countV y = .tuple #[.int .i64 0, .int .i64 0, .int .i64 er] := by unfold countV; rw [if_neg hz, her]
        have HdE := Lib.hid (show decE bs = (zeroE, 0, er) by have h9 := decK_torn (bs := bs) (k := 3) (by omega) (by rw [Hnx.out]; exact hz); rw [Hnx.out] at h9; rw [her]; exact h9)
        have hz1 : (er == 0) = false := by rw [her]; simpa using hz
        have hz2 : (er != 0) = true := by rw [her]; simpa using hz
        clear hd hy hz
        have z0' := blk_cell HN.out 0 rfl
        have z1' := blk_cell HN.out 1 rfl
        have z2' := blk_cell HN.out 2 rfl
        have z3' := blk_cell HN.out 3 rfl
        have z4' := blk_cell HN.out 4 rfl
        have z5' := blk_cell HN.out 5 rfl
        have z6' := blk_cell HN.out 6 rfl
        have z7' := blk_cell HN.out 7 rfl
        have rr0 := blk_cell HR.out 0 rfl
        have rr1 := blk_cell HR.out 1 rfl
        have rr2 := blk_cell HR.out 2 rfl
        have rr3 := blk_cell HR.out 3 rfl
        have rr4 := blk_cell HR.out 4 rfl
        have rr5 := blk_cell HR.out 5 rfl
        have rr6 := blk_cell HR.out 6 rfl
        have rr7 := blk_cell HR.out 7 rfl
        have fz := blk_free HR.out
        have hn2' : w.heap.size + 1 ≠ w.heap.size + 1 + 1 := by omega
        have hn3' : w.heap.size ≠ w.heap.size + 1 + 1 := by omega
        go_wp2_with (go_at_call 68; refine (CT.out _ HSl.out).mono ?_; rw [hV]; rintro _ _ ⟨rfl, rfl⟩)
        refine bodyPost_ret (v := .tuple #[.agg #[.string ⟨#[]⟩, .int .i64 0, .int .i64 0, .int .i64 0, .string ⟨#[]⟩, .string ⟨#[]⟩, .int .i64 0, .string ⟨#[]⟩], .int .i64 0, .int .i64 er]) (by simp [results, Tryd.results35, go_sem, *]) rfl ⟨by rw [HdE.out]; rfl, ?_⟩
        have hx := HX.out
        repeat (first | with_reducible exact hx | with_reducible exact Keeps.refl _ _ | with_reducible refine Keeps.drew ?_ | with_reducible refine Keeps.drewN ?_ _ | with_reducible refine Keeps.alloc ?_ _ | with_reducible refine Keeps.setCell ?_ (by first | (intro h; simp at h; done) | (intro _; simp; done) | (intro _; simp; omega) | (intro h; simp at h; omega)) _)
    · obtain ⟨d, hd⟩ : ∃ d, d = decK bs 3 := ⟨_, rfl⟩
      rw [← hd] at he hpn HE ⊢
      obtain ⟨dk, ⟨src, num, tick, kind, person, item, value, text⟩, ⟨p, er⟩⟩ := d
      simp only at he hpn HE ⊢
      subst he
      obtain ⟨y, hy⟩ : ∃ y, y = rText bs ⟨p, 0⟩ := ⟨_, rfl⟩
      have HE' := Lib.hid (show wr.heap[w.heap.size + 1 + 1]? = some (.cells #[.string src, .int .i64 num, .int .i64 tick, .int .i64 kind, .string person, .string item, .int .i64 value, .string text] 24) from HE.out)
      have q0 := blk_cell HE'.out 4 rfl
      have f0 := blk_free HE'.out
      have CT := Lib.hid (fun (W : World) (h : Sl byteR ok W (some ⟨b, o, none⟩) n bs) => show Calls Tryd.prog 67 #[.slice (some ⟨b, o, none⟩) n c, .int .i64 (p : Int)] W (fun r w' => r = .returned (takeV y) ∧ W = w') by rw [hy]; exact ref_take _ n c bs p ok W h (by omega) hnc hpn)
      have Hnx := Lib.hid (show decK bs 4 = ⟨dk, ⟨src, num, tick, kind, bts y.1, item, value, text⟩, y.2⟩ by rw [show decK bs 4 = decS4 bs (decK bs 3) from rfl, ← hd, hy]; rfl)
      by_cases hz : y.2.err = 0
      · have hV : takeV y = .tuple #[.string (bts y.1), .int .i64 (y.2.pos : Int)] := by unfold takeV; rw [if_pos hz]
        obtain ⟨ps, hps⟩ : ∃ ps, ps = y.2.pos := ⟨_, rfl⟩
        rw [← hps] at hV
        obtain ⟨v, hv⟩ : ∃ v, v = bts y.1 := ⟨_, rfl⟩
        rw [← hv] at hV Hnx
        have Hz := Lib.hid hz
        have Hps := Lib.hid hps
        clear hd hy hz hps hv
        go_wp2_with (go_at_call 67; refine (CT.out _ HSl.out).mono ?_; rw [hV]; rintro _ _ ⟨rfl, rfl⟩)
        go_roundw
        case rel =>
          have hkE : Keeps (fun k => k ≠ w.heap.size + 1 + 1) wr (wr.setCell ⟨w.heap.size + 1 + 1, 4, none⟩ (.string v)) := (Keeps.refl _ _).setCell (fun _ h => h rfl) _
          refine ⟨4, by omega, by go_num, by rw [Hnx.out]; simp [Hps.out], rfl, by rw [Hnx.out]; exact Hz.out, hkE.blk HR.out (by omega), hkE.blk HN.out (by omega), ?_, Keeps.then_ HX.out hkE (fun i hi _ => by omega)⟩
          rw [Hnx.out]; exact blk_set HE'.out 4 (.string v)
        case measure => simp [intOf]
      · have hV : takeV y = .tuple #[.string ⟨#[]⟩, .int .i64 (-1)] := by unfold takeV; rw [if_neg hz]
        have he3 : y.2.err = 3 := by rw [hy] at hz ⊢; exact rText_err hz
        have HdE := Lib.hid (show decE bs = (zeroE, 0, 3) by have h9 := decK_torn (bs := bs) (k := 4) (by omega) (by rw [Hnx.out]; exact hz); rw [Hnx.out, he3] at h9; exact h9)
        clear hd hy hz
        have z0' := blk_cell HN.out 0 rfl
        have z1' := blk_cell HN.out 1 rfl
        have z2' := blk_cell HN.out 2 rfl
        have z3' := blk_cell HN.out 3 rfl
        have z4' := blk_cell HN.out 4 rfl
        have z5' := blk_cell HN.out 5 rfl
        have z6' := blk_cell HN.out 6 rfl
        have z7' := blk_cell HN.out 7 rfl
        have rr0 := blk_cell HR.out 0 rfl
        have rr1 := blk_cell HR.out 1 rfl
        have rr2 := blk_cell HR.out 2 rfl
        have rr3 := blk_cell HR.out 3 rfl
        have rr4 := blk_cell HR.out 4 rfl
        have rr5 := blk_cell HR.out 5 rfl
        have rr6 := blk_cell HR.out 6 rfl
        have rr7 := blk_cell HR.out 7 rfl
        have fz := blk_free HR.out
        have hn2' : w.heap.size + 1 ≠ w.heap.size + 1 + 1 := by omega
        have hn3' : w.heap.size ≠ w.heap.size + 1 + 1 := by omega
        go_wp2_with (go_at_call 67; refine (CT.out _ HSl.out).mono ?_; rw [hV]; rintro _ _ ⟨rfl, rfl⟩)
        refine bodyPost_ret (v := .tuple #[.agg #[.string ⟨#[]⟩, .int .i64 0, .int .i64 0, .int .i64 0, .string ⟨#[]⟩, .string ⟨#[]⟩, .int .i64 0, .string ⟨#[]⟩], .int .i64 0, .int .i64 3]) (by simp [results, Tryd.results35, go_sem, *]) rfl ⟨by rw [HdE.out]; rfl, ?_⟩
        have hx := HX.out
        repeat (first | with_reducible exact hx | with_reducible exact Keeps.refl _ _ | with_reducible refine Keeps.drew ?_ | with_reducible refine Keeps.drewN ?_ _ | with_reducible refine Keeps.alloc ?_ _ | with_reducible refine Keeps.setCell ?_ (by first | (intro h; simp at h; done) | (intro _; simp; done) | (intro _; simp; omega) | (intro h; simp at h; omega)) _)
    · obtain ⟨d, hd⟩ : ∃ d, d = decK bs 4 := ⟨_, rfl⟩
      rw [← hd] at he hpn HE ⊢
      obtain ⟨dk, ⟨src, num, tick, kind, person, item, value, text⟩, ⟨p, er⟩⟩ := d
      simp only at he hpn HE ⊢
      subst he
      obtain ⟨y, hy⟩ : ∃ y, y = rText bs ⟨p, 0⟩ := ⟨_, rfl⟩
      have HE' := Lib.hid (show wr.heap[w.heap.size + 1 + 1]? = some (.cells #[.string src, .int .i64 num, .int .i64 tick, .int .i64 kind, .string person, .string item, .int .i64 value, .string text] 24) from HE.out)
      have q0 := blk_cell HE'.out 5 rfl
      have f0 := blk_free HE'.out
      have CT := Lib.hid (fun (W : World) (h : Sl byteR ok W (some ⟨b, o, none⟩) n bs) => show Calls Tryd.prog 67 #[.slice (some ⟨b, o, none⟩) n c, .int .i64 (p : Int)] W (fun r w' => r = .returned (takeV y) ∧ W = w') by rw [hy]; exact ref_take _ n c bs p ok W h (by omega) hnc hpn)
      have Hnx := Lib.hid (show decK bs 5 = ⟨dk, ⟨src, num, tick, kind, person, bts y.1, value, text⟩, y.2⟩ by rw [show decK bs 5 = decS5 bs (decK bs 4) from rfl, ← hd, hy]; rfl)
      by_cases hz : y.2.err = 0
      · have hV : takeV y = .tuple #[.string (bts y.1), .int .i64 (y.2.pos : Int)] := by unfold takeV; rw [if_pos hz]
        obtain ⟨ps, hps⟩ : ∃ ps, ps = y.2.pos := ⟨_, rfl⟩
        rw [← hps] at hV
        obtain ⟨v, hv⟩ : ∃ v, v = bts y.1 := ⟨_, rfl⟩
        rw [← hv] at hV Hnx
        have Hz := Lib.hid hz
        have Hps := Lib.hid hps
        clear hd hy hz hps hv
        go_wp2_with (go_at_call 67; refine (CT.out _ HSl.out).mono ?_; rw [hV]; rintro _ _ ⟨rfl, rfl⟩)
        go_roundw
        case rel =>
          have hkE : Keeps (fun k => k ≠ w.heap.size + 1 + 1) wr (wr.setCell ⟨w.heap.size + 1 + 1, 5, none⟩ (.string v)) := (Keeps.refl _ _).setCell (fun _ h => h rfl) _
          refine ⟨5, by omega, by go_num, by rw [Hnx.out]; simp [Hps.out], rfl, by rw [Hnx.out]; exact Hz.out, hkE.blk HR.out (by omega), hkE.blk HN.out (by omega), ?_, Keeps.then_ HX.out hkE (fun i hi _ => by omega)⟩
          rw [Hnx.out]; exact blk_set HE'.out 5 (.string v)
        case measure => simp [intOf]
      · have hV : takeV y = .tuple #[.string ⟨#[]⟩, .int .i64 (-1)] := by unfold takeV; rw [if_neg hz]
        have he3 : y.2.err = 3 := by rw [hy] at hz ⊢; exact rText_err hz
        have HdE := Lib.hid (show decE bs = (zeroE, 0, 3) by have h9 := decK_torn (bs := bs) (k := 5) (by omega) (by rw [Hnx.out]; exact hz); rw [Hnx.out, he3] at h9; exact h9)
        clear hd hy hz
        have z0' := blk_cell HN.out 0 rfl
        have z1' := blk_cell HN.out 1 rfl
        have z2' := blk_cell HN.out 2 rfl
        have z3' := blk_cell HN.out 3 rfl
        have z4' := blk_cell HN.out 4 rfl
        have z5' := blk_cell HN.out 5 rfl
        have z6' := blk_cell HN.out 6 rfl
        have z7' := blk_cell HN.out 7 rfl
        have rr0 := blk_cell HR.out 0 rfl
        have rr1 := blk_cell HR.out 1 rfl
        have rr2 := blk_cell HR.out 2 rfl
        have rr3 := blk_cell HR.out 3 rfl
        have rr4 := blk_cell HR.out 4 rfl
        have rr5 := blk_cell HR.out 5 rfl
        have rr6 := blk_cell HR.out 6 rfl
        have rr7 := blk_cell HR.out 7 rfl
        have fz := blk_free HR.out
        have hn2' : w.heap.size + 1 ≠ w.heap.size + 1 + 1 := by omega
        have hn3' : w.heap.size ≠ w.heap.size + 1 + 1 := by omega
        go_wp2_with (go_at_call 67; refine (CT.out _ HSl.out).mono ?_; rw [hV]; rintro _ _ ⟨rfl, rfl⟩)
        refine bodyPost_ret (v := .tuple #[.agg #[.string ⟨#[]⟩, .int .i64 0, .int .i64 0, .int .i64 0, .string ⟨#[]⟩, .string ⟨#[]⟩, .int .i64 0, .string ⟨#[]⟩], .int .i64 0, .int .i64 3]) (by simp [results, Tryd.results35, go_sem, *]) rfl ⟨by rw [HdE.out]; rfl, ?_⟩
        have hx := HX.out
        repeat (first | with_reducible exact hx | with_reducible exact Keeps.refl _ _ | with_reducible refine Keeps.drew ?_ | with_reducible refine Keeps.drewN ?_ _ | with_reducible refine Keeps.alloc ?_ _ | with_reducible refine Keeps.setCell ?_ (by first | (intro h; simp at h; done) | (intro _; simp; done) | (intro _; simp; omega) | (intro h; simp at h; omega)) _)
    · obtain ⟨d, hd⟩ : ∃ d, d = decK bs 5 := ⟨_, rfl⟩
      rw [← hd] at he hpn HE ⊢
      obtain ⟨dk, ⟨src, num, tick, kind, person, item, value, text⟩, ⟨p, er⟩⟩ := d
      simp only at he hpn HE ⊢
      subst he
      obtain ⟨y, hy⟩ : ∃ y, y = rNum bs 6 0 0 ⟨p, 0⟩ := ⟨_, rfl⟩
      have HE' := Lib.hid (show wr.heap[w.heap.size + 1 + 1]? = some (.cells #[.string src, .int .i64 num, .int .i64 tick, .int .i64 kind, .string person, .string item, .int .i64 value, .string text] 24) from HE.out)
      have q0 := blk_cell HE'.out 6 rfl
      have f0 := blk_free HE'.out
      have CT := Lib.hid (fun (W : World) (h : Sl byteR ok W (some ⟨b, o, none⟩) n bs) => show Calls Tryd.prog 68 #[.slice (some ⟨b, o, none⟩) n c, .int .i64 (p : Int)] W (fun r w' => r = .returned (countV y) ∧ W = w') by rw [hy]; exact ref_count _ n c bs p ok W h (by omega) hpn)
      have Hnx := Lib.hid (show decK bs 6 = ⟨dk, ⟨src, num, tick, kind, person, item, (y.1 : Int), text⟩, y.2⟩ by rw [show decK bs 6 = decS6 bs (decK bs 5) from rfl, ← hd, hy]; rfl)
      by_cases hz : y.2.err = 0
      · have hV : countV y = .tuple #[.int .i64 (y.1 : Int), .int .i64 (y.2.pos : Int), .int .i64 0] := by unfold countV; rw [if_pos hz]
        obtain ⟨ps, hps⟩ : ∃ ps, ps = y.2.pos := ⟨_, rfl⟩
        rw [← hps] at hV
        obtain ⟨v, hv⟩ : ∃ v : Int, v = (y.1 : Int) := ⟨_, rfl⟩
        rw [← hv] at hV Hnx
        have Hz := Lib.hid hz
        have Hps := Lib.hid hps
        clear hd hy hz hps hv
        go_wp2_with (go_at_call 68; refine (CT.out _ HSl.out).mono ?_; rw [hV]; rintro _ _ ⟨rfl, rfl⟩)
        go_roundw
        case rel =>
          have hkE : Keeps (fun k => k ≠ w.heap.size + 1 + 1) wr (wr.setCell ⟨w.heap.size + 1 + 1, 6, none⟩ (.int .i64 v)) := (Keeps.refl _ _).setCell (fun _ h => h rfl) _
          refine ⟨6, by omega, by go_num, by rw [Hnx.out]; simp [Hps.out], rfl, by rw [Hnx.out]; exact Hz.out, hkE.blk HR.out (by omega), hkE.blk HN.out (by omega), ?_, Keeps.then_ HX.out hkE (fun i hi _ => by omega)⟩
          rw [Hnx.out]; exact blk_set HE'.out 6 (.int .i64 v)
        case measure => simp [intOf]
      · obtain ⟨er, her⟩ : ∃ er, er = y.2.err := ⟨_, rfl⟩
        have hV : countV y = .tuple #[.int .i64 0, .int .i64 0, .int .i64 er] := by unfold countV; rw [if_neg hz, her]
        have HdE := Lib.hid (show decE bs = (zeroE, 0, er) by have h9 := decK_torn (bs := bs) (k := 6) (by omega) (by rw [Hnx.out]; exact hz); rw [Hnx.out] at h9; rw [her]; exact h9)
        have hz1 : (er == 0) = false := by rw [her]; simpa using hz
        have hz2 : (er != 0) = true := by rw [her]; simpa using hz
        clear hd hy hz
        have z0' := blk_cell HN.out 0 rfl
        have z1' := blk_cell HN.out 1 rfl
        have z2' := blk_cell HN.out 2 rfl
        have z3' := blk_cell HN.out 3 rfl
        have z4' := blk_cell HN.out 4 rfl
        have z5' := blk_cell HN.out 5 rfl
        have z6' := blk_cell HN.out 6 rfl
        have z7' := blk_cell HN.out 7 rfl
        have rr0 := blk_cell HR.out 0 rfl
        have rr1 := blk_cell HR.out 1 rfl
        have rr2 := blk_cell HR.out 2 rfl
        have rr3 := blk_cell HR.out 3 rfl
        have rr4 := blk_cell HR.out 4 rfl
        have rr5 := blk_cell HR.out 5 rfl
        have rr6 := blk_cell HR.out 6 rfl
        have rr7 := blk_cell HR.out 7 rfl
        have fz := blk_free HR.out
        have hn2' : w.heap.size + 1 ≠ w.heap.size + 1 + 1 := by omega
        have hn3' : w.heap.size ≠ w.heap.size + 1 + 1 := by omega
        go_wp2_with (go_at_call 68; refine (CT.out _ HSl.out).mono ?_; rw [hV]; rintro _ _ ⟨rfl, rfl⟩)
        refine bodyPost_ret (v := .tuple #[.agg #[.string ⟨#[]⟩, .int .i64 0, .int .i64 0, .int .i64 0, .string ⟨#[]⟩, .string ⟨#[]⟩, .int .i64 0, .string ⟨#[]⟩], .int .i64 0, .int .i64 er]) (by simp [results, Tryd.results35, go_sem, *]) rfl ⟨by rw [HdE.out]; rfl, ?_⟩
        have hx := HX.out
        repeat (first | with_reducible exact hx | with_reducible exact Keeps.refl _ _ | with_reducible refine Keeps.drew ?_ | with_reducible refine Keeps.drewN ?_ _ | with_reducible refine Keeps.alloc ?_ _ | with_reducible refine Keeps.setCell ?_ (by first | (intro h; simp at h; done) | (intro _; simp; done) | (intro _; simp; omega) | (intro h; simp at h; omega)) _)
    · obtain ⟨d, hd⟩ : ∃ d, d = decK bs 6 := ⟨_, rfl⟩
      rw [← hd] at he hpn HE ⊢
      obtain ⟨dk, ⟨src, num, tick, kind, person, item, value, text⟩, ⟨p, er⟩⟩ := d
      simp only at he hpn HE ⊢
      subst he
      obtain ⟨y, hy⟩ : ∃ y, y = rText bs ⟨p, 0⟩ := ⟨_, rfl⟩
      have HE' := Lib.hid (show wr.heap[w.heap.size + 1 + 1]? = some (.cells #[.string src, .int .i64 num, .int .i64 tick, .int .i64 kind, .string person, .string item, .int .i64 value, .string text] 24) from HE.out)
      have q0 := blk_cell HE'.out 7 rfl
      have f0 := blk_free HE'.out
      have CT := Lib.hid (fun (W : World) (h : Sl byteR ok W (some ⟨b, o, none⟩) n bs) => show Calls Tryd.prog 67 #[.slice (some ⟨b, o, none⟩) n c, .int .i64 (p : Int)] W (fun r w' => r = .returned (takeV y) ∧ W = w') by rw [hy]; exact ref_take _ n c bs p ok W h (by omega) hnc hpn)
      have Hnx := Lib.hid (show decK bs 7 = ⟨dk, ⟨src, num, tick, kind, person, item, value, bts y.1⟩, y.2⟩ by rw [show decK bs 7 = decS7 bs (decK bs 6) from rfl, ← hd, hy]; rfl)
      by_cases hz : y.2.err = 0
      · have hV : takeV y = .tuple #[.string (bts y.1), .int .i64 (y.2.pos : Int)] := by unfold takeV; rw [if_pos hz]
        obtain ⟨ps, hps⟩ : ∃ ps, ps = y.2.pos := ⟨_, rfl⟩
        rw [← hps] at hV
        obtain ⟨v, hv⟩ : ∃ v, v = bts y.1 := ⟨_, rfl⟩
        rw [← hv] at hV Hnx
        have Hz := Lib.hid hz
        have Hps := Lib.hid hps
        clear hd hy hz hps hv
        go_wp2_with (go_at_call 67; refine (CT.out _ HSl.out).mono ?_; rw [hV]; rintro _ _ ⟨rfl, rfl⟩)
        go_roundw
        case rel =>
          have hkE : Keeps (fun k => k ≠ w.heap.size + 1 + 1) wr (wr.setCell ⟨w.heap.size + 1 + 1, 7, none⟩ (.string v)) := (Keeps.refl _ _).setCell (fun _ h => h rfl) _
          refine ⟨7, by omega, by go_num, by rw [Hnx.out]; simp [Hps.out], rfl, by rw [Hnx.out]; exact Hz.out, hkE.blk HR.out (by omega), hkE.blk HN.out (by omega), ?_, Keeps.then_ HX.out hkE (fun i hi _ => by omega)⟩
          rw [Hnx.out]; exact blk_set HE'.out 7 (.string v)
        case measure => simp [intOf]
      · have hV : takeV y = .tuple #[.string ⟨#[]⟩, .int .i64 (-1)] := by unfold takeV; rw [if_neg hz]
        have he3 : y.2.err = 3 := by rw [hy] at hz ⊢; exact rText_err hz
        have HdE := Lib.hid (show decE bs = (zeroE, 0, 3) by have h9 := decK_torn (bs := bs) (k := 7) (by omega) (by rw [Hnx.out]; exact hz); rw [Hnx.out, he3] at h9; exact h9)
        clear hd hy hz
        have z0' := blk_cell HN.out 0 rfl
        have z1' := blk_cell HN.out 1 rfl
        have z2' := blk_cell HN.out 2 rfl
        have z3' := blk_cell HN.out 3 rfl
        have z4' := blk_cell HN.out 4 rfl
        have z5' := blk_cell HN.out 5 rfl
        have z6' := blk_cell HN.out 6 rfl
        have z7' := blk_cell HN.out 7 rfl
        have rr0 := blk_cell HR.out 0 rfl
        have rr1 := blk_cell HR.out 1 rfl
        have rr2 := blk_cell HR.out 2 rfl
        have rr3 := blk_cell HR.out 3 rfl
        have rr4 := blk_cell HR.out 4 rfl
        have rr5 := blk_cell HR.out 5 rfl
        have rr6 := blk_cell HR.out 6 rfl
        have rr7 := blk_cell HR.out 7 rfl
        have fz := blk_free HR.out
        have hn2' : w.heap.size + 1 ≠ w.heap.size + 1 + 1 := by omega
        have hn3' : w.heap.size ≠ w.heap.size + 1 + 1 := by omega
        go_wp2_with (go_at_call 67; refine (CT.out _ HSl.out).mono ?_; rw [hV]; rintro _ _ ⟨rfl, rfl⟩)
        refine bodyPost_ret (v := .tuple #[.agg #[.string ⟨#[]⟩, .int .i64 0, .int .i64 0, .int .i64 0, .string ⟨#[]⟩, .string ⟨#[]⟩, .int .i64 0, .string ⟨#[]⟩], .int .i64 0, .int .i64 3]) (by simp [results, Tryd.results35, go_sem, *]) rfl ⟨by rw [HdE.out]; rfl, ?_⟩
        have hx := HX.out
        repeat (first | with_reducible exact hx | with_reducible exact Keeps.refl _ _ | with_reducible refine Keeps.drew ?_ | with_reducible refine Keeps.drewN ?_ _ | with_reducible refine Keeps.alloc ?_ _ | with_reducible refine Keeps.setCell ?_ (by first | (intro h; simp at h; done) | (intro _; simp; done) | (intro _; simp; omega) | (intro h; simp at h; omega)) _)
    · obtain ⟨d, hd⟩ : ∃ d, d = dec7 bs := ⟨_, rfl⟩
      have hd7 : decK bs 7 = d := hd.symm
      have hsm := decK_sm (bs := bs)
      rw [← hd] at hsm
      rw [hd7] at he hpn HE ⊢
      obtain ⟨dk, ⟨src, num, tick, kind, person, item, value, text⟩, ⟨p, er⟩⟩ := d
      simp only at he hpn HE hsm ⊢
      subst he
      have HE' := Lib.hid (show wr.heap[w.heap.size + 1 + 1]? = some (.cells #[.string src, .int .i64 num, .int .i64 tick, .int .i64 kind, .string person, .string item, .int .i64 value, .string text] 24) from HE.out)
      have HSm := Lib.hid hsm
      have d0 := blk_cell HE'.out 0 rfl
      have d1 := blk_cell HE'.out 1 rfl
      have d2 := blk_cell HE'.out 2 rfl
      have d3 := blk_cell HE'.out 3 rfl
      have d4 := blk_cell HE'.out 4 rfl
      have d5 := blk_cell HE'.out 5 rfl
      have d6 := blk_cell HE'.out 6 rfl
      have d7 := blk_cell HE'.out 7 rfl
      have HD := Lib.hid hd
      clear hd hd7 hsm
      cases hmay : mayE (⟨src, num, tick, kind, person, item, value, text⟩ : Ev)
      · have HdE := Lib.hid (show decE bs = (zeroE, 0, 2) by unfold decE; rw [← HD.out, if_neg (by simp), if_neg (by rw [hmay]; decide)])
        go_wp2_with (go_at_call 14; refine (ref_May (⟨src, num, tick, kind, person, item, value, text⟩ : Ev) _ HSm.out).mono ?_; rw [hmay]; rintro _ V9 ⟨rfl, hx9⟩; clear d0 d1 d2 d3 d4 d5 d6 d7; have hE9 := hx9.blk HE'.out; have d0 := blk_cell hE9 0 rfl; have d1 := blk_cell hE9 1 rfl; have d2 := blk_cell hE9 2 rfl; have d3 := blk_cell hE9 3 rfl; have d4 := blk_cell hE9 4 rfl; have d5 := blk_cell hE9 5 rfl; have d6 := blk_cell hE9 6 rfl; have d7 := blk_cell hE9 7 rfl; have hN9 := hx9.blk HN.out; have z0' := blk_cell hN9 0 rfl; have z1' := blk_cell hN9 1 rfl; have z2' := blk_cell hN9 2 rfl; have z3' := blk_cell hN9 3 rfl; have z4' := blk_cell hN9 4 rfl; have z5' := blk_cell hN9 5 rfl; have z6' := blk_cell hN9 6 rfl; have z7' := blk_cell hN9 7 rfl; have hR9 := hx9.blk HR.out; have rr0 := blk_cell hR9 0 rfl; have rr1 := blk_cell hR9 1 rfl; have rr2 := blk_cell hR9 2 rfl; have rr3 := blk_cell hR9 3 rfl; have rr4 := blk_cell hR9 4 rfl; have rr5 := blk_cell hR9 5 rfl; have rr6 := blk_cell hR9 6 rfl; have rr7 := blk_cell hR9 7 rfl; have fz := blk_free hR9; have HX9 := Lib.hid (Keeps.trans HX.out hx9); clear hx9 hE9 hN9 hR9)
        refine bodyPost_ret (v := .tuple #[.agg #[.string ⟨#[]⟩, .int .i64 0, .int .i64 0, .int .i64 0, .string ⟨#[]⟩, .string ⟨#[]⟩, .int .i64 0, .string ⟨#[]⟩], .int .i64 0, .int .i64 2]) (by simp [results, Tryd.results35, go_sem, *]) rfl ⟨by rw [HdE.out]; rfl, ?_⟩
        have hx := HX9.out
        repeat (first | with_reducible exact hx | with_reducible exact Keeps.refl _ _ | with_reducible refine Keeps.drew ?_ | with_reducible refine Keeps.drewN ?_ _ | with_reducible refine Keeps.alloc ?_ _ | with_reducible refine Keeps.setCell ?_ (by first | (intro h; simp at h; done) | (intro _; simp; done) | (intro _; simp; omega) | (intro h; simp at h; omega)) _)
      · have HdE := Lib.hid (show decE bs = ((⟨src, num, tick, kind, person, item, value, text⟩ : Ev), (p : Int), 0) by unfold decE; rw [← HD.out, if_neg (by simp), if_pos hmay])
        go_wp2_with (go_at_call 14; refine (ref_May (⟨src, num, tick, kind, person, item, value, text⟩ : Ev) _ HSm.out).mono ?_; rw [hmay]; rintro _ V9 ⟨rfl, hx9⟩; clear d0 d1 d2 d3 d4 d5 d6 d7; have hE9 := hx9.blk HE'.out; have d0 := blk_cell hE9 0 rfl; have d1 := blk_cell hE9 1 rfl; have d2 := blk_cell hE9 2 rfl; have d3 := blk_cell hE9 3 rfl; have d4 := blk_cell hE9 4 rfl; have d5 := blk_cell hE9 5 rfl; have d6 := blk_cell hE9 6 rfl; have d7 := blk_cell hE9 7 rfl; have hN9 := hx9.blk HN.out; have z0' := blk_cell hN9 0 rfl; have z1' := blk_cell hN9 1 rfl; have z2' := blk_cell hN9 2 rfl; have z3' := blk_cell hN9 3 rfl; have z4' := blk_cell hN9 4 rfl; have z5' := blk_cell hN9 5 rfl; have z6' := blk_cell hN9 6 rfl; have z7' := blk_cell hN9 7 rfl; have hR9 := hx9.blk HR.out; have rr0 := blk_cell hR9 0 rfl; have rr1 := blk_cell hR9 1 rfl; have rr2 := blk_cell hR9 2 rfl; have rr3 := blk_cell hR9 3 rfl; have rr4 := blk_cell hR9 4 rfl; have rr5 := blk_cell hR9 5 rfl; have rr6 := blk_cell hR9 6 rfl; have rr7 := blk_cell hR9 7 rfl; have fz := blk_free hR9; have HX9 := Lib.hid (Keeps.trans HX.out hx9); clear hx9 hE9 hN9 hR9)
        refine bodyPost_ret (v := .tuple #[.agg #[.string src, .int .i64 num, .int .i64 tick, .int .i64 kind, .string person, .string item, .int .i64 value, .string text], .int .i64 (p : Int), .int .i64 0]) (by simp [results, Tryd.results35, go_sem, *]) rfl ⟨by rw [HdE.out]; rfl, ?_⟩
        have hx := HX9.out
        repeat (first | with_reducible exact hx | with_reducible exact Keeps.refl _ _ | with_reducible refine Keeps.drew ?_ | with_reducible refine Keeps.drewN ?_ _ | with_reducible refine Keeps.alloc ?_ _ | with_reducible refine Keeps.setCell ?_ (by first | (intro h; simp at h; done) | (intro _; simp; done) | (intro _; simp; omega) | (intro h; simp at h; omega)) _)
end Go.Proofs.YtihdeidaekheoaaDoor
