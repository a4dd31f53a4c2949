/-
  What is proved here: the program's Encode of an event is the plain function's bytes. Conditions: texts of at most a million bytes; the library's own variable holds some number.
-/
import Derived.Test.YtmhkgfoimkonoaaDoorEvPut
import Derived.Test.YtmhkgfoimkonoaaDoorEvRMay
namespace Go.Proofs.YtmhkgfoimkonoaaDoor
open Go Go.RowKit Go.Proofs
attribute [local go_sem ↓] Go.wp_at_zero Go.wp_at_succ

def encE (e : Ev) : List UInt8 := [UInt8.ofNat e.kind.toNat] ++ wordL e.src ++ numL e.num.toNat ++ numL e.tick.toNat ++ wordL e.person ++ wordL e.item ++ numL e.value.toNat ++ wordL e.text
theorem nameB_size {s : ByteArray} (h : nameB s = true) : 1 ≤ s.size ∧ s.size ≤ 24 := by
  simp only [nameB, Bool.and_eq_true, decide_eq_true_eq] at h
  omega
theorem noneB_size {s : ByteArray} (h : noneB s = true) : s.size = 0 := by
  unfold noneB at h
  rw [ByteArray.toList_eq] at h
  have := List.isEmpty_iff.1 h
  have h2 : s.data.toList.length = s.size := by simp
  rw [this] at h2; simpa using h2.symm
theorem parts_sum (c : UInt8) : ∀ l : List UInt8, ((partsL c l).map (fun p => p.length + 1)).sum = l.length + 1 := by
  intro l
  induction l with
  | nil => rfl
  | cons b l ih =>
    simp only [partsL]
    split
    · simp only [List.map_cons, List.sum_cons, ih, List.length_nil, List.length_cons]; omega
    · split
      · rename_i h; exact absurd h (parts_ne c l)
      · rename_i q ps h
        rw [h] at ih
        simp only [List.map_cons, List.sum_cons, List.length_cons] at ih ⊢
        omega
theorem sum_le {l : List Nat} {k : Nat} (h : ∀ x ∈ l, x ≤ k) : l.sum ≤ l.length * k := by
  induction l with
  | nil => simp
  | cons a l ih =>
    have h1 := h a (by simp)
    have h2 := ih (fun x hx => h x (by simp [hx]))
    simp only [List.sum_cons, List.length_cons, Nat.succ_mul]; omega
theorem label_parts {s : ByteArray} (h : labelB s = true) : semiB s = true ∧ nameB (makerB s) = true ∧ (tagsB s).length ≤ 8 ∧ ∀ t ∈ tagsB s, nameB t = true := by
  simp only [labelB, Bool.and_eq_true, decide_eq_true_eq] at h
  obtain ⟨⟨⟨h1, h2⟩, h3⟩, h4⟩ := h
  refine ⟨h1, h2, h3, fun t ht => ?_⟩
  obtain ⟨i, hi, rfl⟩ := List.mem_iff_getElem.1 ht
  have h5 := List.all_eq_true.1 h4 i (List.mem_range.2 hi)
  simp only [tagOk, List.getElem?_eq_getElem hi, Bool.and_eq_true] at h5
  exact h5.1
theorem label_size {s : ByteArray} (h : labelB s = true) : s.size ≤ 224 := by
  obtain ⟨h1, h2, h3, h4⟩ := label_parts h
  have hm := (nameB_size h2).2
  rcases cut_cases 59 s.data.toList with hf | ⟨a, r, hf, e⟩
  · unfold semiB at h1; rw [(cut_none hf).2.2] at h1; cases h1
  · have hsz := hit_size e
    have ha : (makerB s).size = a.length := by unfold makerB; rw [bts_size, e, (cut_hit hf).1]
    by_cases hr : r = []
    · subst hr; simp at hsz; omega
    · have ht := tagsB_some hf e hr
      rw [ht] at h3 h4
      have hs := parts_sum 44 r
      have hle : ((partsL 44 r).map (fun p => p.length + 1)).sum ≤ ((partsL 44 r).map (fun p => p.length + 1)).length * 25 := sum_le (fun x hx => by
        obtain ⟨p, hp, rfl⟩ := List.mem_map.1 hx
        have := (nameB_size (h4 (bts p) (List.mem_map.2 ⟨p, hp, rfl⟩))).2
        rw [bts_size] at this; omega)
      simp only [List.length_map] at h3 hle
      omega
structure MayF (e : Ev) : Prop where
  src : nameB e.src = true
  num0 : 1 ≤ e.num
  num1 : e.num ≤ 1099511627776
  tick0 : 0 ≤ e.tick
  tick1 : e.tick ≤ 1099511627776
  kind0 : 0 ≤ e.kind
  kind1 : e.kind ≤ 14
  person : nameB e.person = true ∨ noneB e.person = true
  item : nameB e.item = true ∨ noneB e.item = true
  text : nameB e.text = true ∨ noneB e.text = true ∨ labelB e.text = true
  value0 : 0 ≤ e.value
  value1 : e.value ≤ 1048576
theorem mayF {e : Ev} (h : mayE e = true) : MayF e := by
  simp only [mayE, headE, Bool.and_eq_true, decide_eq_true_eq] at h
  obtain ⟨⟨⟨⟨⟨h1, h2⟩, h3⟩, h4⟩, h5⟩, h6⟩ := h
  by_cases ka : e.kind = 0 ∨ e.kind = 1 ∨ e.kind = 2 ∨ e.kind = 3 ∨ e.kind = 5 ∨ e.kind = 6
  · rw [tail_a ka] at h6
    simp only [Bool.and_eq_true, decide_eq_true_eq] at h6
    obtain ⟨⟨⟨a1, a2⟩, a3⟩, a4⟩ := h6
    exact ⟨h1, h2, h3, h4, h5, by omega, by omega, .inl a1, .inl a2, .inr (.inl a4), by omega, by omega⟩
  by_cases kb : e.kind = 4
  · rw [tail_b kb] at h6
    simp only [Bool.and_eq_true, decide_eq_true_eq] at h6
    obtain ⟨⟨⟨⟨a1, a2⟩, a3⟩, a4⟩, a5⟩ := h6
    exact ⟨h1, h2, h3, h4, h5, by omega, by omega, .inl a1, .inl a2, .inr (.inl a5), by omega, by omega⟩
  by_cases kc : e.kind = 7 ∨ e.kind = 8 ∨ e.kind = 9 ∨ e.kind = 10
  · rw [tail_c kc] at h6
    simp only [Bool.and_eq_true, decide_eq_true_eq] at h6
    obtain ⟨⟨⟨a1, a2⟩, a3⟩, a4⟩ := h6
    exact ⟨h1, h2, h3, h4, h5, by omega, by omega, .inl a1, .inr a2, .inl a4, by omega, by omega⟩
  by_cases kd : e.kind = 11
  · rw [tail_d kd] at h6
    simp only [Bool.and_eq_true, decide_eq_true_eq] at h6
    obtain ⟨⟨⟨⟨a1, a2⟩, a3⟩, a4⟩, a5⟩ := h6
    exact ⟨h1, h2, h3, h4, h5, by omega, by omega, .inr a1, .inl a2, .inr (.inr a5), by omega, by omega⟩
  by_cases ke : e.kind = 12
  · rw [tail_e ke] at h6
    simp only [Bool.and_eq_true, decide_eq_true_eq] at h6
    obtain ⟨⟨⟨⟨a1, a2⟩, a3⟩, a4⟩, a5⟩ := h6
    exact ⟨h1, h2, h3, h4, h5, by omega, by omega, .inr a1, .inl a2, .inr (.inl a5), by omega, by omega⟩
  by_cases kf : e.kind = 13
  · rw [tail_f kf] at h6
    simp only [Bool.and_eq_true, decide_eq_true_eq] at h6
    obtain ⟨⟨⟨a1, a2⟩, a3⟩, a4⟩ := h6
    exact ⟨h1, h2, h3, h4, h5, by omega, by omega, .inr a1, .inl a2, .inr (.inl a4), by omega, by omega⟩
  by_cases kg : e.kind = 14
  · rw [tail_g kg] at h6
    simp only [Bool.and_eq_true, decide_eq_true_eq] at h6
    obtain ⟨⟨⟨a1, a2⟩, a3⟩, a4⟩ := h6
    exact ⟨h1, h2, h3, h4, h5, by omega, by omega, .inl a1, .inr a2, .inr (.inl a4), by omega, by omega⟩
  rw [tail_h (by omega)] at h6
  cases h6
theorem MayF.num00 {e : Ev} (h : MayF e) : 0 ≤ e.num := by have := h.num0; omega
theorem MayF.value11 {e : Ev} (h : MayF e) : e.value ≤ 1099511627776 := by have := h.value1; omega
theorem MayF.psize {e : Ev} (h : MayF e) : e.person.size ≤ 24 := by
  rcases h.person with h | h
  · exact (nameB_size h).2
  · rw [noneB_size h]; omega
theorem MayF.isize {e : Ev} (h : MayF e) : e.item.size ≤ 24 := by
  rcases h.item with h | h
  · exact (nameB_size h).2
  · rw [noneB_size h]; omega
theorem MayF.tsize {e : Ev} (h : MayF e) : e.text.size ≤ 224 := by
  rcases h.text with h | h | h
  · have := (nameB_size h).2; omega
  · rw [noneB_size h]; omega
  · exact label_size h
theorem ev_putInt (z : Int) (h0 : 0 ≤ z) (h1 : z ≤ 1099511627776) (A : Option Addr) (n c : Nat) (bs : List UInt8) (base : Nat) (w : World) (hb : Bts w base (.slice A n c) n bs) (hn : n ≤ 1000000) (hbase : base ≤ w.heap.size) :
    Calls Tryd.prog 53 #[.slice A n c, .int .i64 z] w (PutPost base (bs ++ numL z.toNat) w) := by
  obtain ⟨N, rfl⟩ : ∃ N : Nat, z = N := ⟨z.toNat, by omega⟩
  exact ev_putNumber N (by omega) A n c bs base w hb hn hbase
theorem Bts.one_new {w : World} {g base : Nat} {z : Int} {x : UInt8} {t : TypeId} (hg : w.heap[g]? = some (.cells #[.int .u8 z] t)) (hz : z = (x.toNat : Int)) (hb : base ≤ g) : Bts w base (.slice (some ⟨g, 0, none⟩) 1 1) 1 [x] := by
  subst hz
  refine ⟨rfl, .inr ⟨g, 1, rfl, hb, Nat.le_refl _, by unfold maxLen; omega, (Array.getElem?_eq_some_iff.1 hg).1, fun j hj => ?_, fun j u hu => ?_⟩⟩
  · obtain rfl : j = 0 := by omega
    exact ⟨by rw [blk_cell hg 0 rfl]; rfl, blk_free hg 0⟩
  · match j, hu with
    | 0, hu => simp [byteV] at hu; subst hu; exact blk_cell hg 0 rfl
theorem Bts.base_le {w : World} {base base' : Nat} {v : Value} {n : Nat} {bs : List UInt8} (h : Bts w base v n bs) (hb : base' ≤ base) : Bts w base' v n bs := by
  refine ⟨h.1, ?_⟩
  rcases h.2 with h | ⟨g, cap, h1, h2, h3⟩
  · exact .inl h
  · exact .inr ⟨g, cap, h1, Nat.le_trans hb h2, h3⟩
def EncPost (e : Ev) (w : World) (r : Ending) (w' : World) : Prop :=
  Ext w w' ∧ ∃ A c m, r = .returned (.tuple #[.slice A m c, .int .i64 0]) ∧ Bts w' w.heap.size (.slice A m c) m (encE e)

set_option maxRecDepth 100000 in
set_option maxHeartbeats 4000000 in
theorem ev_Encode_no (e : Ev) (w : World) (hsm : EvSm e) (hm : Mx w) (h : mayE e = false) :
    Calls Tryd.prog 28 #[.agg #[.string e.src, .int .i64 e.num, .int .i64 e.tick, .int .i64 e.kind, .string e.person, .string e.item, .int .i64 e.value, .string e.text]] w fun r w' => r = .returned (.tuple #[.slice none 0 0, .int .i64 1]) ∧ Ext w w' := by
  have Hsm := Lib.hid hsm
  have Hm := Lib.hid hm
  clear hsm hm
  go_enter Tryd.func28, Tryd.ntmps28
  go_wp2_with (go_at_call 36; refine (ev_May e _ Hsm.out (Hm.out.ext ((Keeps.refl _ _).alloc _))).mono ?_; rw [h]; rintro _ w1 ⟨rfl, hx1⟩; have Hx1 := Lib.hid (Keeps.trans ((Keeps.refl (fun _ => True) w).alloc _) hx1); clear hx1)
  go_ret2
  exact ⟨rfl, Hx1.out⟩

set_option maxRecDepth 100000 in
set_option maxHeartbeats 4000000 in
theorem ev_Encode_yes (e : Ev) (w : World) (hsm : EvSm e) (hm : Mx w) (h : mayE e = true) :
    Calls Tryd.prog 28 #[.agg #[.string e.src, .int .i64 e.num, .int .i64 e.tick, .int .i64 e.kind, .string e.person, .string e.item, .int .i64 e.value, .string e.text]] w (EncPost e w) := by
  have Hsm := Lib.hid hsm
  have Hm := Lib.hid hm
  have hF := mayF h
  have hk0 := hF.kind0
  have hk1 := hF.kind1
  have z1 := (nameB_size hF.src).2
  have z2 := hF.psize
  have z3 := hF.isize
  have z4 := hF.tsize
  have HF := Lib.hid hF
  have Hof := Lib.hid (show e.kind = ((UInt8.ofNat e.kind.toNat).toNat : Int) by rw [ofNat_toNat (by omega)]; omega)
  have l1 := wordL_len e.src
  have l2 := numL_6 (n := e.num.toNat) (by have := hF.num1; omega)
  have l3 := numL_6 (n := e.tick.toNat) (by have := hF.tick1; omega)
  have l4 := wordL_len e.person
  have l5 := wordL_len e.item
  have l6 := numL_6 (n := e.value.toNat) (by have := hF.value1; omega)
  have HL := Lib.hid (show (wordL e.src).length ≤ 25 ∧ (wordL e.person).length ≤ 25 ∧ (wordL e.item).length ≤ 25 ∧ (wordL e.text).length ≤ 225 from ⟨by omega, by omega, by omega, by rw [wordL_len]; omega⟩)
  clear hsm hm hF l1 l4 l5
  go_enter Tryd.func28, Tryd.ntmps28
  go_wp2_with (go_at_call 36; refine (ev_May e _ Hsm.out (Hm.out.ext ((Keeps.refl _ _).alloc _))).mono ?_; rw [h]; rintro _ w1 ⟨rfl, hx1⟩; have hg1 := hx1.blk (blk_new w _); have q3 := blk_cell hg1 3 rfl; have q0 := blk_cell hg1 0 rfl; have hlt : w.heap.size < w1.heap.size := (Array.getElem?_eq_some_iff.1 hg1).1; have Hg1 := Lib.hid hg1; have Hx1 := Lib.hid (Keeps.trans ((Keeps.refl (fun _ => True) w).alloc _) hx1); clear hx1 hg1)
  have hb0 : Bts (w1.alloc (.cells #[.int .u8 e.kind] 5)) w1.heap.size (.slice (some ⟨w1.heap.size, 0, none⟩) 1 1) 1 [UInt8.ofNat e.kind.toNat] := Bts.one_new (blk_new _ _) Hof.out (Nat.le_refl _)
  have Hk0 := Lib.hid (show Keeps (fun k => k < w1.heap.size) w1 (w1.alloc (.cells #[.int .u8 e.kind] 5)) from (Keeps.refl _ _).alloc _)
  obtain ⟨B0, hB0⟩ : ∃ B, B = [UInt8.ofNat e.kind.toNat] := ⟨_, rfl⟩
  rw [← hB0] at hb0
  have HB0 := Lib.hid hB0
  have Hb0 := Lib.hid hb0
  have hs0 : w1.heap.size ≤ (w1.alloc (.cells #[.int .u8 e.kind] 5)).heap.size := Hk0.out.size
  clear hb0 hB0 q3 q0
  refine (ev_putText e.src (by omega) (some ⟨w1.heap.size, 0, none⟩) 1 1 B0 w1.heap.size _ Hb0.out (by omega) hs0).mono ?_
  rintro _ w2 ⟨A1, c1, m1, rfl, hb1, hk1⟩
  obtain ⟨B1, hB1⟩ : ∃ B, B = B0 ++ wordL e.src := ⟨_, rfl⟩
  rw [← hB1] at hb1
  have hm1 : m1 ≤ 26 := by rw [← hb1.1, hB1, List.length_append, Hb0.out.1]; have h9 := HL.out; omega
  have HB1 := Lib.hid hB1
  have Hk1 := Lib.hid (Keeps.trans Hk0.out hk1)
  have Hb1 := Lib.hid hb1
  have hs1 : w1.heap.size ≤ w2.heap.size := Hk1.out.size
  have q1 := blk_cell (Hk1.out.blk Hg1.out hlt) 1 rfl
  clear hb1 hk1 hB1
  go_wp2_with fail
  refine (ev_putInt e.num HF.out.num00 HF.out.num1 A1 m1 c1 B1 w1.heap.size _ Hb1.out (by omega) hs1).mono ?_
  rintro _ w3 ⟨A2, c2, m2, rfl, hb2, hk2⟩
  obtain ⟨B2, hB2⟩ : ∃ B, B = B1 ++ numL e.num.toNat := ⟨_, rfl⟩
  rw [← hB2] at hb2
  have hm2 : m2 ≤ 32 := by rw [← hb2.1, hB2, List.length_append, Hb1.out.1]; have h9 := HL.out; omega
  have HB2 := Lib.hid hB2
  have Hk2 := Lib.hid (Keeps.trans Hk1.out hk2)
  have Hb2 := Lib.hid hb2
  have hs2 : w1.heap.size ≤ w3.heap.size := Hk2.out.size
  have q2 := blk_cell (Hk2.out.blk Hg1.out hlt) 2 rfl
  clear hb2 hk2 hB2 q1
  go_wp2_with fail
  refine (ev_putInt e.tick HF.out.tick0 HF.out.tick1 A2 m2 c2 B2 w1.heap.size _ Hb2.out (by omega) hs2).mono ?_
  rintro _ w4 ⟨A3, c3, m3, rfl, hb3, hk3⟩
  obtain ⟨B3, hB3⟩ : ∃ B, B = B2 ++ numL e.tick.toNat := ⟨_, rfl⟩
  rw [← hB3] at hb3
  have hm3 : m3 ≤ 38 := by rw [← hb3.1, hB3, List.length_append, Hb2.out.1]; have h9 := HL.out; omega
  have HB3 := Lib.hid hB3
  have Hk3 := Lib.hid (Keeps.trans Hk2.out hk3)
  have Hb3 := Lib.hid hb3
  have hs3 : w1.heap.size ≤ w4.heap.size := Hk3.out.size
  have q3 := blk_cell (Hk3.out.blk Hg1.out hlt) 4 rfl
  clear hb3 hk3 hB3 q2
  go_wp2_with fail
  refine (ev_putText e.person (by omega) A3 m3 c3 B3 w1.heap.size _ Hb3.out (by omega) hs3).mono ?_
  rintro _ w5 ⟨A4, c4, m4, rfl, hb4, hk4⟩
  obtain ⟨B4, hB4⟩ : ∃ B, B = B3 ++ wordL e.person := ⟨_, rfl⟩
  rw [← hB4] at hb4
  have hm4 : m4 ≤ 63 := by rw [← hb4.1, hB4, List.length_append, Hb3.out.1]; have h9 := HL.out; omega
  have HB4 := Lib.hid hB4
  have Hk4 := Lib.hid (Keeps.trans Hk3.out hk4)
  have Hb4 := Lib.hid hb4
  have hs4 : w1.heap.size ≤ w5.heap.size := Hk4.out.size
  have q4 := blk_cell (Hk4.out.blk Hg1.out hlt) 5 rfl
  clear hb4 hk4 hB4 q3
  go_wp2_with fail
  refine (ev_putText e.item (by omega) A4 m4 c4 B4 w1.heap.size _ Hb4.out (by omega) hs4).mono ?_
  rintro _ w6 ⟨A5, c5, m5, rfl, hb5, hk5⟩
  obtain ⟨B5, hB5⟩ : ∃ B, B = B4 ++ wordL e.item := ⟨_, rfl⟩
  rw [← hB5] at hb5
  have hm5 : m5 ≤ 88 := by rw [← hb5.1, hB5, List.length_append, Hb4.out.1]; have h9 := HL.out; omega
  have HB5 := Lib.hid hB5
  have Hk5 := Lib.hid (Keeps.trans Hk4.out hk5)
  have Hb5 := Lib.hid hb5
  have hs5 : w1.heap.size ≤ w6.heap.size := Hk5.out.size
  have q5 := blk_cell (Hk5.out.blk Hg1.out hlt) 6 rfl
  clear hb5 hk5 hB5 q4
  go_wp2_with fail
  refine (ev_putInt e.value HF.out.value0 HF.out.value11 A5 m5 c5 B5 w1.heap.size _ Hb5.out (by omega) hs5).mono ?_
  rintro _ w7 ⟨A6, c6, m6, rfl, hb6, hk6⟩
  obtain ⟨B6, hB6⟩ : ∃ B, B = B5 ++ numL e.value.toNat := ⟨_, rfl⟩
  rw [← hB6] at hb6
  have hm6 : m6 ≤ 94 := by rw [← hb6.1, hB6, List.length_append, Hb5.out.1]; have h9 := HL.out; omega
  have HB6 := Lib.hid hB6
  have Hk6 := Lib.hid (Keeps.trans Hk5.out hk6)
  have Hb6 := Lib.hid hb6
  have hs6 : w1.heap.size ≤ w7.heap.size := Hk6.out.size
  have q6 := blk_cell (Hk6.out.blk Hg1.out hlt) 7 rfl
  clear hb6 hk6 hB6 q5
  go_wp2_with fail
  refine (ev_putText e.text (by omega) A6 m6 c6 B6 w1.heap.size _ Hb6.out (by omega) hs6).mono ?_
  rintro _ w8 ⟨A7, c7, m7, rfl, hb7, hk7⟩
  obtain ⟨B7, hB7⟩ : ∃ B, B = B6 ++ wordL e.text := ⟨_, rfl⟩
  rw [← hB7] at hb7
  have hm7 : m7 ≤ 1000 := by rw [← hb7.1, hB7, List.length_append, Hb6.out.1]; have h9 := HL.out; omega
  have HB7 := Lib.hid hB7
  have Hk7 := Lib.hid (Keeps.trans Hk6.out hk7)
  have Hb7 := Lib.hid hb7
  have hs7 : w1.heap.size ≤ w8.heap.size := Hk7.out.size
  clear hb7 hk7 hB7 q6
  go_wp2_with fail
  go_ret2
  have hE : B7 = encE e := by rw [HB7.out, HB6.out, HB5.out, HB4.out, HB3.out, HB2.out, HB1.out, HB0.out]; rfl
  refine ⟨Keeps.then_ Hx1.out Hk7.out (fun i hi _ => by have := Hx1.out.size; omega), A7, c7, m7, rfl, ?_⟩
  rw [← hE]
  exact Hb7.out.base_le (Nat.le_of_lt hlt)

end Go.Proofs.YtmhkgfoimkonoaaDoor
