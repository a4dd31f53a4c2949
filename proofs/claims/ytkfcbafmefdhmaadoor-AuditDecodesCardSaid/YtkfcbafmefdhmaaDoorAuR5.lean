/-
  What is proved here: the document's Decode of any text is what the plain function says. Conditions: at most a hundred thousand bytes.
-/
import Derived.Test.YtkfcbafmefdhmaaDoorAuR4
import Derived.Test.YtkfcbafmefdhmaaDoorCheck2
import Derived.Test.YtkfcbafmefdhmaaDoorAuDec2
namespace Go.Proofs.YtkfcbafmefdhmaaDoor
open Go Go.RowKit Go.Proofs
attribute [local go_sem ↓] Go.wp_at_zero Go.wp_at_succ
theorem ref_Line (s : ByteArray) (w : World) (hs : s.size ≤ 1000000) :
    Calls Tryd.prog 42 #[.string s] w (fun e w' => (entP s.data.toList = none ∧ PeNo w e w') ∨ ∃ E, entP s.data.toList = some E ∧ PeYes E w e w') := by
  by_cases h : (partsL 32 s.data.toList).length = 5
  · obtain ⟨w0, w1, w2, w3, w4, hl⟩ := five (l := (partsL 32 s.data.toList).map bts) (by rw [List.length_map, h])
    refine ref_Line_5 s w0 w1 w2 w3 w4 w hs hl ?_
    rw [← hl]
    intro x hx
    obtain ⟨p, hp, rfl⟩ := List.mem_map.1 hx
    have h1 := mem_parts_size 32 _ p hp
    have h2 : s.data.toList.length = s.size := by simp
    rw [bts_size]; omega
  · exact (ref_Line_len s w hs h).mono fun _ _ h9 => .inl ⟨entP_none h, h9⟩
theorem ref_Line_no (s : ByteArray) (w : World) (hs : s.size ≤ 1000000) (h : entP s.data.toList = none) : Calls Tryd.prog 42 #[.string s] w (PeNo w) :=
  (ref_Line s w hs).mono fun _ _ h9 => by
    rcases h9 with ⟨_, h9⟩ | ⟨E, h8, _⟩
    · exact h9
    · rw [h] at h8; cases h8
theorem ref_Line_yes (s : ByteArray) (w : World) (hs : s.size ≤ 1000000) {E : Ent} (h : entP s.data.toList = some E) : Calls Tryd.prog 42 #[.string s] w (PeYes E w) :=
  (ref_Line s w hs).mono fun _ _ h9 => by
    rcases h9 with ⟨h8, _⟩ | ⟨E', h8, h9⟩
    · rw [h] at h8; cases h8
    · rw [h] at h8
      injection h8 with h8
      subst h8
      exact h9
def RDecPost (R : DecR) (w : World) (e : Ending) (w' : World) : Prop :=
  (R.ch = none → e = .returned (.tuple #[.int .u64 0, .slice none 0 0, .int .i64 (R.n : Int), .int .i64 R.code]) ∧ Ext w w') ∧
  ∀ seed es, R.ch = some (seed, es) → ∃ A c, e = .returned (.tuple #[.int .u64 seed, .slice A es.length c, .int .i64 (R.n : Int), .int .i64 R.code]) ∧ Sl entR (fun k => w.heap.size ≤ k) w' A es.length es ∧ Ext w w'
theorem RDecPost.no {l : List UInt8} {n : Nat} {c : Int} {w w' : World} (h : decD l = ⟨none, n, c⟩) (hx : Ext w w') : RDecPost (decD l) w (.returned (.tuple #[.int .u64 0, .slice none 0 0, .int .i64 (n : Int), .int .i64 c])) w' := by
  rw [h]
  exact ⟨fun _ => ⟨rfl, hx⟩, fun _ _ h9 => (by cases h9)⟩
theorem RDecPost.yes {l : List UInt8} {n : Nat} {seed : Int} {es : List Ent} {A : Option Addr} {c : Nat} {w w' : World} (h : decD l = ⟨some (seed, es), n, 0⟩) (hc : Sl entR (fun k => w.heap.size ≤ k) w' A es.length es) (hx : Ext w w') : RDecPost (decD l) w (.returned (.tuple #[.int .u64 seed, .slice A es.length c, .int .i64 (n : Int), .int .i64 0])) w' := by
  rw [h]
  refine ⟨fun h9 => (by cases h9), fun s e h9 => ?_⟩
  injection h9 with h9
  injection h9 with h1 h2
  subst h1 h2
  exact ⟨A, c, rfl, hc, hx⟩
/-- Decode in the midst. -/
structure RdeAt (w : World) (l : List UInt8) (n : Nat) (R : ByteArray) (seed : Int) (es : List Ent) (A : Option Addr) (c : Nat) (wr : World) : Prop where
  at_ : DecAt l seed es n R.data.toList
  go : n = 0 ∨ R.data.toList ≠ []
  own : Own entR 30 (fun k => w.heap.size ≤ k) wr w.heap.size (.slice A es.length c) es.length es
  ext : Ext w wr
theorem cut_at {s : ByteArray} {k : Nat} (hf : freeL 10 (s.data.toList.take k)) (hk : k < s.size) (hc : s[k] = 10) : hasL 10 s.data.toList = true ∧ s.extract 0 k = bts (aheadL 10 s.data.toList) ∧ s.extract (k + 1) s.size = bts (behindL 10 s.data.toList) := by
  have h3 : k < s.data.toList.length := by simpa using hk
  have e : s.data.toList = s.data.toList.take k ++ 10 :: s.data.toList.drop (k + 1) := by
    conv => lhs; rw [← List.take_append_drop k s.data.toList]
    rw [List.drop_eq_getElem_cons h3]
    have : s.data.toList[k] = s[k] := rfl
    rw [this, hc]
  obtain ⟨h1, h2, h4⟩ := cut_hit (r := s.data.toList.drop (k + 1)) hf
  rw [← e] at h1 h2 h4
  refine ⟨h4, ?_, ?_⟩
  · rw [extract_mid, h1]; simp
  · rw [extract_mid, h2, List.take_of_length_le (by simp)]
theorem free_step {s : ByteArray} {k : Nat} (hf : freeL 10 (s.data.toList.take k)) (hk : k < s.size) (hc : s[k] ≠ 10) : freeL 10 (s.data.toList.take (k + 1)) := by
  rw [take_snoc s k hk]
  intro x hx
  rcases List.mem_append.1 hx with hx | hx
  · exact hf x hx
  · simp at hx; subst hx; exact hc
theorem empty_iff2 (R : ByteArray) : R.toList.isEmpty = decide (R.data.toList = []) := by
  rw [ByteArray.toList_eq]
  cases R.data.toList <;> rfl
theorem prefix_take {l : List UInt8} : Lib.hasPrefix l aud6 = (l.take 6 == aud6) := by
  unfold Lib.hasPrefix
  rw [Bool.eq_iff_iff]
  constructor
  · intro h
    have h2 : aud6 <+: l := by simpa using h
    obtain ⟨r, rfl⟩ := h2
    simp [aud6]
  · intro h
    have h2 := eq_of_beq h
    have : aud6 <+: l := ⟨l.drop 6, by rw [← h2]; exact List.take_append_drop 6 l⟩
    simpa using this
theorem headP_short {s : ByteArray} (h : s.size < 6) : headP s.data.toList = none := by
  unfold headP
  rw [prefix_take, if_neg]
  intro h9
  have h2 := congrArg List.length (eq_of_beq h9)
  have h3 : s.data.toList.length = s.size := by simp
  rw [List.length_take] at h2
  simp [aud6] at h2
  omega
theorem headP_no {s : ByteArray} (h : ((s.extract 0 6).toList == aud6) = false) : headP s.data.toList = none := by
  unfold headP
  rw [prefix_take, if_neg]
  intro h9
  rw [ByteArray.toList_eq, extract_mid, bts_data] at h
  simp only [List.drop_zero, Nat.sub_zero] at h
  rw [h9] at h; cases h
theorem headP_yes {s : ByteArray} (h : ((s.extract 0 6).toList == aud6) = true) : headP s.data.toList = numOf (s.extract 6 s.size).data.toList := by
  unfold headP
  rw [prefix_take, if_pos]
  · rw [extract_mid, bts_data, List.take_of_length_le (by simp)]
  · rw [ByteArray.toList_eq, extract_mid, bts_data] at h
    simpa using h
set_option maxRecDepth 100000 in
set_option maxHeartbeats 4000000 in
theorem ref_Decode (s : ByteArray) (w : World) (hs : s.size ≤ 100000) :
    Calls Tryd.prog 23 #[.string s] w (RDecPost (decD s.data.toList) w) := by
  obtain ⟨l, hl⟩ : ∃ l, l = s.data.toList := ⟨_, rfl⟩
  have hll : l.length ≤ 100000 := by rw [hl]; simpa using hs
  rw [← hl]
  have Hl := Lib.hid hl
  obtain ⟨i0, hi0, hz0, hz1, hz2⟩ := info_parts info_refEnt
  clear hl
  go_enter Tryd.func23, Tryd.ntmps23
  go_wp2_with fail
  go_loopw [0, 6, 7, 8] (fun r sd i lv wr => ∃ (n : Nat) (R : ByteArray) (seed : Int) (es : List Ent) (A : Option Addr) (c : Nat), r = .string R ∧ sd = .int .u64 seed ∧ i = .int .i64 (n : Int) ∧ lv = .slice A es.length c ∧ RdeAt w l n R seed es A c wr) (fun r _ _ _ _ => strLen r)
  case atStart => exact ⟨0, s, 0, [], none, 0, rfl, rfl, rfl, rfl, ⟨by rw [Hl.out]; exact DecAt.start _, .inl rfl, Own.nil_, Keeps.refl _ _⟩⟩
  case round =>
    obtain ⟨n, R, seed, es, A, c, rfl, rfl, rfl, rfl, hat⟩ := hrel
    have hle := hat.at_.restLe
    have hRlen : R.data.toList.length = R.size := by simp
    have hRs : R.size ≤ 100000 := by omega
    have hfew := hat.at_.few.1
    have Hat := Lib.hid hat
    have hsz := hat.ext.size
    clear hle hRlen hat
    go_wp2_with fail
    go_loopw [9] (fun i wr' => ∃ k : Nat, k ≤ R.size ∧ i = .int .i64 (k : Int) ∧ freeL 10 (R.data.toList.take k) ∧ wr' = wr) (fun i _ => R.size - (intOf i).toNat)
    case atStart => exact ⟨0, Nat.zero_le _, rfl, fun _ h => by simp at h, rfl⟩
    case round =>
      obtain ⟨k, hk, rfl, hf, rfl⟩ := hrel
      have Hf := Lib.hid hf
      clear hf
      by_cases hlt : k < R.size
      · have Hbe := Lib.hid (byte_eq R[k] 10)
        cases h5 : ((R[k].toNat : Int) == 10)
        · have Hst := Lib.hid (free_step Hf.out hlt (fun e => by have h7 := Hbe.out; rw [e] at h5; exact absurd h5 (by decide)))
          have h5' : ((R[k].toNat : Int) != 10) = true := by rw [bne, h5]; rfl
          go_wp2_with fail
          go_roundw
          case rel => exact ⟨k + 1, by omega, by go_num, Hst.out, trivial⟩
          case measure => simp [intOf]; omega
        · have hc10 : R[k] = 10 := UInt8.toNat_inj.1 (by have := eq_of_beq h5; show R[k].toNat = 10; omega)
          have h5' : ((R[k].toNat : Int) != 10) = false := by rw [bne, h5]; rfl
          obtain ⟨g1, g2, g3⟩ := cut_at Hf.out hlt hc10
          have h6 : ((k : Int) == (R.size : Int)) = false := by rw [beq_eq_false_iff_ne]; omega
          clear hc10
          have HS1 := Lib.hid g2
          have HR' := Lib.hid g3
          have Hh := Lib.hid g1
          clear g1 g2 g3
          go_upto_region 10 with fail
          clear h5 h5' h6
          generalize R.extract 0 k = S1 at *
          generalize R.extract (k + 1) R.size = R' at *
          have HS1l := Lib.hid (show S1.data.toList = aheadL 10 R.data.toList by rw [HS1.out, bts_data])
          have HRl := Lib.hid (show R'.data.toList = behindL 10 R.data.toList by rw [HR'.out, bts_data])
          have hRlen : R.data.toList.length = R.size := by simp
          have hS1s : S1.size ≤ 100000 := by
            have h1 := ahead_len 10 R.data.toList
            rw [HS1.out, bts_size]
            omega
          have hshort : R'.size < R.size := by
            have := (behind_lt Hh.out).1
            rw [HR'.out, bts_size]
            omega
          clear HS1 HR' hRlen
          by_cases hz : n = 0
          · subst hz
            have t1 : (((0 : Nat) : Int) == 0) = true := rfl
            have hL : lineD 0 seed es (aheadL 10 R.data.toList) = firstD S1.data.toList := by unfold lineD; rw [if_pos rfl, HS1l.out]
            have HL := Lib.hid hL
            obtain ⟨z1, z2⟩ := Hat.out.at_.zero rfl
            clear hL
            by_cases h6 : S1.size < 6
            · have Hb := Lib.hid (Hat.out.at_.bad Hh.out (c := 2) (by rw [HL.out]; unfold firstD; rw [headP_short h6]))
              go_wp2_with fail
              exact bodyPost_ret (v := .tuple #[.int .u64 0, .slice none 0 0, .int .i64 ((0 : Nat) : Int), .int .i64 2]) (by simp [results, Tryd.results23, go_sem]) rfl (RDecPost.no Hb.out Hat.out.ext)
            · cases h7 : ((S1.extract 0 6).toList == aud6)
              · have h7' : ((S1.extract 0 6).toList != [97, 117, 100, 105, 116, 32]) = true := by
                  rw [bne, show ((S1.extract 0 6).toList == [97, 117, 100, 105, 116, 32]) = false from h7]; rfl
                have h7'' : ((S1.extract 0 6).toList == [97, 117, 100, 105, 116, 32]) = false := h7
                have Hb := Lib.hid (Hat.out.at_.bad Hh.out (c := 2) (by rw [HL.out]; unfold firstD; rw [headP_no h7]))
                clear h7
                go_wp2_with fail
                exact bodyPost_ret (v := .tuple #[.int .u64 0, .slice none 0 0, .int .i64 ((0 : Nat) : Int), .int .i64 2]) (by simp [results, Tryd.results23, go_sem]) rfl (RDecPost.no Hb.out Hat.out.ext)
              · have h7' : ((S1.extract 0 6).toList != [97, 117, 100, 105, 116, 32]) = false := by
                  rw [bne, show ((S1.extract 0 6).toList == [97, 117, 100, 105, 116, 32]) = true from h7]; rfl
                have h7'' : ((S1.extract 0 6).toList == [97, 117, 100, 105, 116, 32]) = true := h7
                have Hhp := Lib.hid (headP_yes h7)
                have hM : (S1.extract 6 S1.size).size ≤ maxLen := by
                  rw [extract_mid, bts_size]
                  have h9 : S1.data.toList.length = S1.size := by simp
                  simp
                  unfold maxLen; omega
                have CN := ref_number (S1.extract 6 S1.size) wr hM
                clear h7 hM
                cases hnum : numOf (S1.extract 6 S1.size).data.toList with
                | none =>
                  rw [numV_none hnum] at CN
                  have Hb := Lib.hid (Hat.out.at_.bad Hh.out (c := 2) (by rw [HL.out]; unfold firstD; rw [Hhp.out, hnum]))
                  have CN := Lib.hid CN
                  clear hnum
                  go_wp2_with fail
                  refine CN.out.mono ?_
                  rintro _ _ ⟨rfl, rfl⟩
                  go_wp2_with fail
                  exact bodyPost_ret (v := .tuple #[.int .u64 0, .slice none 0 0, .int .i64 ((0 : Nat) : Int), .int .i64 2]) (by simp [results, Tryd.results23, go_sem]) rfl (RDecPost.no Hb.out Hat.out.ext)
                | some u =>
                  rw [numV_some hnum] at CN
                  have hn := Hat.out.at_.next Hh.out (s' := (u : Int)) (es' := []) (by rw [HL.out]; unfold firstD; rw [Hhp.out, hnum])
                  rw [← HRl.out] at hn
                  have Hn := Lib.hid hn
                  have CN := Lib.hid CN
                  subst z2
                  clear hnum hn
                  go_wp2_with fail
                  refine CN.out.mono ?_
                  rintro _ _ ⟨rfl, rfl⟩
                  cases hre : R'.toList.isEmpty
                  · go_wp2_with fail
                    go_roundw
                    case rel => exact ⟨0 + 1, R', _, _, _, _, rfl, rfl, by go_num, rfl, ⟨Hn.out, .inr (fun h9 => by rw [empty_iff2, h9] at hre; cases hre), Hat.out.own, Hat.out.ext⟩⟩
                    case measure => simp [strLen]; omega
                  · have hre2 : R'.data.toList = [] := by rw [empty_iff2] at hre; simpa using hre
                    have Hd := Lib.hid (Hn.out.done (by omega) hre2)
                    go_wp2_with fail
                    exact bodyPost_ret (v := .tuple #[.int .u64 (u : Int), .slice A ([] : List Ent).length c, .int .i64 ((0 + 1 : Nat) : Int), .int .i64 0]) (by simp [results, Tryd.results23, go_sem]) rfl (RDecPost.yes Hd.out (Hat.out.own.sl (fun k hk _ _ => hk) (fun _ _ h => h)) Hat.out.ext)
          · have t1 : ((n : Int) == 0) = false := by simpa using hz
            have hes : es.length ≤ 100000 := by omega
            have hnl : n ≤ 100001 := by have := Hat.out.at_.len hz; omega
            have hL : lineD n seed es (aheadL 10 R.data.toList) = entD seed es S1.data.toList := by unfold lineD; rw [if_neg hz, HS1l.out]
            have HL := Lib.hid hL
            clear hL
            cases hp : entP S1.data.toList with
            | none =>
              have Hb := Lib.hid (Hat.out.at_.bad Hh.out (c := 2) (by rw [HL.out]; unfold entD; rw [hp]))
              have C := Lib.hid (ref_Line_no S1 wr (by omega) hp)
              clear hp
              go_wp2_with fail
              refine C.out.mono ?_
              rintro _ w3 ⟨x3, y3, z3, p3, A3, n3, c3, rfl, hx3⟩
              have Hx3 := Lib.hid hx3
              clear hx3
              go_wp2_with fail
              exact bodyPost_ret (v := .tuple #[.int .u64 0, .slice none 0 0, .int .i64 (n : Int), .int .i64 2]) (by simp [results, Tryd.results23, go_sem]) rfl (RDecPost.no Hb.out ((Hat.out.ext.trans Hx3.out).alloc _))
            | some E =>
              obtain ⟨m1, _, _, _⟩ := entP_some hp
              have C := Lib.hid (ref_Line_yes S1 wr (by omega) hp)
              have Hm := Lib.hid m1
              have Hp := Lib.hid hp
              clear hp m1
              go_wp2_with fail
              refine C.out.mono ?_
              rintro _ w3 ⟨A3, c3, rfl, hcap3, hs3, hx3⟩
              have Hx3 := Lib.hid hx3
              have hsz3 := hx3.size
              have Hown3 := Lib.hid (Hat.out.own.ext hx3)
              have Hs3 := Lib.hid (show Sl strR (Go.Proofs.YtkfcbafmefdhmaaDoor.off (fun k => w.heap.size ≤ k) (.slice A es.length c)) w3 A3 E.items.length E.items from hs3.mono (fun k _ h9 => ⟨by omega, fun e => by have := (Hat.out.own.lt k e).2; omega⟩))
              have Hcap3 := Lib.hid hcap3
              clear hx3 hs3 hcap3
              go_wp2_with (at_builtin; refine wpList_append_Own (ok := fun k => w.heap.size ≤ k) (R := entR) _ rfl (.tmp 66) (.tmp 68) 23 rfl 30 i0 _ 64 w.heap.size Tryd.underlying23 hi0 hz0 hz1 hz2 rfl (by decide) rfl ((Hown3.out.alloc _).alloc _) _ 1 1 [E] rfl (Srcs.one_new ⟨A3, c3, rfl, Hcap3.out, (Hs3.out.alloc _).alloc _⟩ (two_new w3 _ _).2 rfl) (by omega) (by decide) (by simp; omega) ?_; intro A4 c4 w4 hown4 hg4 hat4; have Hext := Lib.hid (show Ext w w4 from Keeps.grown (Keeps.alloc (Keeps.alloc (Keeps.trans Hat.out.ext Hx3.out) _) _) hg4 (fun g hg hl => by have := (Hat.out.own.lt g hg).1; omega)); have Hown4 := Lib.hid hown4; clear hown4 hg4 hat4)
              have hlen4 : (es ++ [E]).length = es.length + 1 := by simp
              have HC := Lib.hid (ref_Check seed A4 (es.length + 1) c4 (es ++ [E]) _ w4 (Hown4.out.sl (ok' := fun _ => True) (fun _ _ _ _ => trivial) (fun _ _ _ => trivial)) (by omega) (fun e he => by
                have hm : mayE e = true := by
                  rcases List.mem_append.1 he with h9 | h9
                  · exact right_may Hat.out.at_.right e h9
                  · simp at h9; subst h9; exact Hm.out
                obtain ⟨_, _, _, _, q5, q6, q7⟩ := mayE_parts' hm
                have := nameB_size q5
                exact ⟨by unfold maxLen; omega, by unfold maxLen; omega, fun s hs => by have := nameB_size (List.all_eq_true.1 q7 s hs); unfold maxLen; omega⟩))
              refine HC.out.mono ?_
              rintro _ w5 ⟨rfl, hx5⟩
              have Hx5 := Lib.hid hx5
              clear hx5
              have hcs := check_snoc es seed E Hat.out.at_.right
              rw [Hm.out, Bool.true_and] at hcs
              generalize checkL seed (es ++ [E]) = ck at *
              by_cases hsum : E.sum = sumE (aheadOf seed es) E
              · rw [if_pos (decide_eq_true hsum)] at hcs
                subst hcs
                have hn := Hat.out.at_.next Hh.out (s' := seed) (es' := es ++ [E]) (by rw [HL.out]; unfold entD; rw [Hp.out]; exact if_pos hsum)
                rw [← HRl.out] at hn
                have Hn := Lib.hid hn
                have Hown5 := Lib.hid (show Own entR 30 (fun k => w.heap.size ≤ k) w5 w.heap.size (.slice A4 (es ++ [E]).length c4) (es ++ [E]).length (es ++ [E]) by rw [hlen4]; exact Hown4.out.ext Hx5.out)
                clear hn hsum
                have h8 : (((es.length + 1 : Nat) : Int) != ((es.length + 1 : Nat) : Int)) = false := by simp
                cases hre : R'.toList.isEmpty
                · go_wp2_with fail
                  go_roundw
                  case rel => exact ⟨n + 1, R', _, _, _, _, rfl, rfl, by go_num, by rw [hlen4], ⟨Hn.out, .inr (fun h9 => by rw [empty_iff2, h9] at hre; cases hre), Hown5.out, (Hext.out.trans Hx5.out)⟩⟩
                  case measure => simp [strLen]; omega
                · have hre2 : R'.data.toList = [] := by rw [empty_iff2] at hre; simpa using hre
                  have Hd := Lib.hid (Hn.out.done (by omega) hre2)
                  go_wp2_with fail
                  exact bodyPost_ret (v := .tuple #[.int .u64 seed, .slice A4 (es ++ [E]).length c4, .int .i64 ((n + 1 : Nat) : Int), .int .i64 0]) (by simp [results, Tryd.results23, go_sem]) rfl (RDecPost.yes Hd.out (Hown5.out.sl (fun k hk _ _ => hk) (fun _ _ h => h)) (Hext.out.trans Hx5.out))
              · rw [if_neg (by rw [decide_eq_false hsum]; decide)] at hcs
                subst hcs
                have Hb := Lib.hid (Hat.out.at_.bad Hh.out (c := 4) (by rw [HL.out]; unfold entD; rw [Hp.out]; exact if_neg hsum))
                have h8 : ((es.length : Int) != ((es.length + 1 : Nat) : Int)) = true := by simp; omega
                clear hsum
                go_wp2_with fail
                exact bodyPost_ret (v := .tuple #[.int .u64 0, .slice none 0 0, .int .i64 (n : Int), .int .i64 4]) (by simp [results, Tryd.results23, go_sem]) rfl (RDecPost.no Hb.out (Hext.out.trans Hx5.out))
      · obtain rfl : k = R.size := by omega
        have hh : hasL 10 R.data.toList = false := by
          have h7 := Hf.out
          rw [take_all R _ (Nat.le_refl _)] at h7
          exact (cut_none h7).2.2
        have Hh := Lib.hid hh
        clear hh
        go_wp2_with fail
        exact bodyPost_ret (v := .tuple #[.int .u64 0, .slice none 0 0, .int .i64 (n : Int), .int .i64 3]) (by simp [results, Tryd.results23, go_sem]) rfl (RDecPost.no (Hat.out.at_.torn Hat.out.go Hh.out) Hat.out.ext)
end Go.Proofs.YtkfcbafmefdhmaaDoor
