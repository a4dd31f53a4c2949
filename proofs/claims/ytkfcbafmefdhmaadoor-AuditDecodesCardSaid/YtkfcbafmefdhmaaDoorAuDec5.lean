/-
  What is proved here: the program's Decode of any bytes is what the plain function says. Conditions: at most a million bytes; the library's variables hold what their text lays.
-/
import Derived.Test.YtkfcbafmefdhmaaDoorAuDec4
import Derived.Test.YtkfcbafmefdhmaaDoorAuP
namespace Go.Proofs.YtkfcbafmefdhmaaDoor
open Go Go.RowKit Go.Proofs
attribute [local go_sem ↓] Go.wp_at_zero Go.wp_at_succ
def DecPost (R : DecR) (w : World) (e : Ending) (w' : World) : Prop :=
  (R.ch = none → e = .returned (.tuple #[.pointer none, .int .i64 (R.n : Int), .int .i64 R.code]) ∧ Ext w w') ∧
  ∀ seed es, R.ch = some (seed, es) → ∃ b v, e = .returned (.tuple #[.pointer (some ⟨b, 0, none⟩), .int .i64 (R.n : Int), .int .i64 R.code]) ∧ w.heap.size ≤ b ∧ ChainAt w' b seed es v ∧ Ext w w'
theorem DecPost.no {l : List UInt8} {n : Nat} {c : Int} {w w' : World} (h : decD l = ⟨none, n, c⟩) (hx : Ext w w') : DecPost (decD l) w (.returned (.tuple #[.pointer none, .int .i64 (n : Int), .int .i64 c])) w' := by
  rw [h]
  exact ⟨fun _ => ⟨rfl, hx⟩, fun _ _ h9 => (by cases h9)⟩
theorem DecPost.yes {l : List UInt8} {n : Nat} {seed : Int} {es : List Ent} {b : Nat} {v : Value} {w w' : World} (h : decD l = ⟨some (seed, es), n, 0⟩) (hb : w.heap.size ≤ b) (hc : ChainAt w' b seed es v) (hx : Ext w w') : DecPost (decD l) w (.returned (.tuple #[.pointer (some ⟨b, 0, none⟩), .int .i64 (n : Int), .int .i64 0])) w' := by
  rw [h]
  refine ⟨fun h9 => (by cases h9), fun s e h9 => ?_⟩
  injection h9 with h9
  injection h9 with h1 h2
  subst h1 h2
  exact ⟨b, v, rfl, hb, hc, hx⟩
/-- Decode in the midst. -/
structure DeAt (w : World) (g b : Nat) (l : List UInt8) (n : Nat) (R : ByteArray) (seed : Int) (es : List Ent) (v : Value) (wr : World) : Prop where
  at_ : DecAt l seed es n R.data.toList
  box : wr.heap[g]? = some (.cells #[.pointer (some ⟨b, 0, none⟩)] 26)
  ch : ChainAt wr b seed es v
  ext : Ext w wr
theorem DeAt.next {w : World} {g b : Nat} {l : List UInt8} {n : Nat} {R R' : ByteArray} {seed : Int} {es es' : List Ent} {v v' : Value} {wr wr' : World} {s' : Int} (h : DeAt w g b l n R seed es v wr) (hb : w.heap.size ≤ b) (hbg : g ≠ b) (hr : hasL 10 R.data.toList = true) (hR : R'.data.toList = behindL 10 R.data.toList)
    (hl : lineD n seed es (aheadL 10 R.data.toList) = .ok s' es') (hc : ChainAt wr' b s' es' v') (hk : Keeps (fun k => k ≠ b ∧ v.ownBlock ≠ some k) wr wr') : DeAt w g b l (n + 1) R' s' es' v' wr' := by
  refine ⟨by rw [hR]; exact h.at_.next hr hl, hk.blk h.box ⟨hbg, h.ch.own.ne_blk h.box (by decide)⟩, hc, Keeps.then_ h.ext hk (fun k hk9 _ => ⟨by omega, fun e => ?_⟩)⟩
  have := (h.ch.own.lt k e).1
  omega
def readV (g n : Nat) : Value := if n = 0 then Value.func (.func 35) #[] #[.pointer (some ⟨g, 0, none⟩)] else Value.func (.func 38) #[] #[.pointer (some ⟨g, 0, none⟩)]
theorem readV_zero (g : Nat) : readV g 0 = Value.func (.func 35) #[] #[.pointer (some ⟨g, 0, none⟩)] := rfl
theorem readV_pos (g n : Nat) (h : n ≠ 0) : readV g n = Value.func (.func 38) #[] #[.pointer (some ⟨g, 0, none⟩)] := if_neg h
theorem empty_iff (R : ByteArray) : R.toList.isEmpty = decide (R.data.toList = []) := by
  rw [ByteArray.toList_eq]
  cases R.data.toList <;> rfl
set_option maxRecDepth 100000 in
set_option maxHeartbeats 4000000 in
theorem aud_Decode (s : ByteArray) (A : Option Addr) (m c : Nat) (w : World) (hs : s.size ≤ 500000) (hv : VarsA w) (hcv : ∀ W, Ext w W → (convert 39 9 (.slice A m c)).run Tryd.prog W = .ok (.string s) W) :
    Calls Tryd.prog 22 #[.slice A m c] w (DecPost (decD s.data.toList) w) := by
  obtain ⟨l, hl⟩ : ∃ l, l = s.data.toList := ⟨_, rfl⟩
  have hll : l.length ≤ 500000 := by rw [hl]; simpa using hs
  rw [← hl]
  have Hv := Lib.hid hv
  have Hl := Lib.hid hl
  have Hcv := Lib.hid hcv
  clear hl hv hcv hs
  go_enter Tryd.func22, Tryd.ntmps22
  go_wp2_with fail
  refine (chain_New 0 w).mono ?_
  rintro _ w1 ⟨rfl, hc1, hx1⟩
  have hb1 : w.heap.size < w1.heap.size := (Array.getElem?_eq_some_iff.1 hc1.blk).1
  have hat : DeAt w w1.heap.size w.heap.size l 0 s 0 [] (.slice none 0 0) (w1.alloc (.cells #[.pointer (some ⟨w.heap.size, 0, none⟩)] 26)) := ⟨by rw [Hl.out]; exact DecAt.start _, blk_new _ _, hc1.ext ((Keeps.refl _ _).alloc _), hx1.alloc _⟩
  have hcvW := Hcv.out _ hat.ext
  have Hat := Lib.hid hat
  clear hat hc1 hx1
  go_wp2_with fail
  clear hcvW
  generalize w1.alloc (.cells #[.pointer (some ⟨w.heap.size, 0, none⟩)] 26) = W at *
  have hbw : w.heap.size ≤ w.heap.size := Nat.le_refl _
  have hbg : w1.heap.size ≠ w.heap.size := by omega
  generalize w1.heap.size = g at *
  obtain ⟨b, hb⟩ : ∃ b, b = w.heap.size := ⟨_, rfl⟩
  have hbw : w.heap.size ≤ b := Nat.le_of_eq hb.symm
  rw [← hb] at Hat hbg ⊢
  clear hb1 hb
  go_loopw [8, 9, 10] (fun r i rd wr => ∃ (n : Nat) (R : ByteArray) (seed : Int) (es : List Ent) (v : Value), r = .string R ∧ i = .int .i64 (n : Int) ∧ rd = readV g n ∧ DeAt w g b l n R seed es v wr) (fun r _ _ _ => strLen r)
  case atStart => exact ⟨0, s, 0, [], .slice none 0 0, rfl, rfl, rfl, Hat.out⟩
  case round =>
    obtain ⟨n, R, seed, es, v, rfl, rfl, rfl, hat⟩ := hrel
    have hle := hat.at_.restLe
    have hRs : R.size ≤ 500000 := by
      have : R.data.toList.length = R.size := by simp
      omega
    have hfew := hat.at_.few.1
    have hne := empty_iff R
    have Hat := Lib.hid hat
    clear hle
    obtain ⟨S1, hS1⟩ : ∃ S1 : ByteArray, S1 = bts (aheadL 10 R.data.toList) := ⟨_, rfl⟩
    obtain ⟨R', hR'⟩ : ∃ R' : ByteArray, R' = bts (behindL 10 R.data.toList) := ⟨_, rfl⟩
    have hS1l : S1.data.toList = aheadL 10 R.data.toList := by rw [hS1, bts_data]
    have hRl : R'.data.toList = behindL 10 R.data.toList := by rw [hR', bts_data]
    have hRlen : R.data.toList.length = R.size := by simp
    have hS1s : S1.size ≤ 999999 := by
      have h1 := ahead_len 10 R.data.toList
      rw [hS1, bts_size]
      omega
    have C := str_Cut R 10 wr (by omega) (Hv.out.mx.ext Hat.out.ext)
    rw [← hS1, ← hR', show bts [10] = ⟨#[10]⟩ from rfl] at C
    have hlt : hasL 10 R.data.toList = true → R'.size < R.size := fun h9 => by
      have := (behind_lt h9).1
      rw [hR', bts_size]
      omega
    have Hlt := Lib.hid hlt
    have C := Lib.hid C
    have HS1l := Lib.hid hS1l
    have HRl := Lib.hid hRl
    clear hS1 hR' hS1l hRl hRlen hlt hat
    by_cases hend : n ≠ 0 ∧ R.data.toList = []
    · obtain ⟨hz, hre⟩ := hend
      have t1 : ((n : Int) == 0) = false := by simpa using hz
      rw [hre] at hne
      have hne2 : R.toList.isEmpty = true := by rw [hne]; rfl
      have q0 := blk_cell Hat.out.box 0 rfl
      clear hne
      go_wp2_with fail
      exact bodyPost_ret (v := .tuple #[.pointer (some ⟨b, 0, none⟩), .int .i64 (n : Int), .int .i64 0]) (by simp [results, Tryd.results22, go_sem]) rfl (DecPost.yes (Hat.out.at_.done hz hre) hbw Hat.out.ch Hat.out.ext)
    · have hor : n = 0 ∨ R.data.toList ≠ [] := by
        by_cases h1 : n = 0
        · exact .inl h1
        · exact .inr (fun h2 => hend ⟨h1, h2⟩)
      have Hor := Lib.hid hor
      have htest : ((n : Int) == 0) = true ∨ (((n : Int) == 0) = false ∧ R.toList.isEmpty = false) := by
        rcases hor with h1 | h1
        · left; simpa using h1
        · by_cases h2 : n = 0
          · left; simpa using h2
          · right; exact ⟨by simpa using h2, by rw [hne]; simpa using h1⟩
      clear hend hor hne
      cases hh : hasL 10 R.data.toList
      · rw [hh] at C
        have Hh := Lib.hid hh
        clear hh
        rcases htest with t1 | ⟨t1, t2⟩
        all_goals
          go_wp2_with fail
          refine C.out.mono ?_
          rintro _ w2 ⟨rfl, hx2⟩
          have Hx2 := Lib.hid hx2
          clear hx2
          go_wp2_with fail
          exact bodyPost_ret (v := .tuple #[.pointer none, .int .i64 (n : Int), .int .i64 3]) (by simp [results, Tryd.results22, go_sem]) rfl (DecPost.no (Hat.out.at_.torn Hor.out Hh.out) (Hat.out.ext.trans Hx2.out))
      · rw [hh] at C
        have Hh := Lib.hid hh
        have hshort := Hlt.out hh
        clear hh
        by_cases hz : n = 0
        · subst hz
          rw [readV_zero]
          have t1 : (((0 : Nat) : Int) == 0) = true := rfl
          clear htest
          go_wp2_with fail
          refine C.out.mono ?_
          rintro _ w2 ⟨rfl, hx2⟩
          have Hx2 := Lib.hid hx2
          clear hx2
          cases hp : headP S1.data.toList with
          | none =>
            have HL := Lib.hid (show lineD 0 seed es (aheadL 10 R.data.toList) = .no 2 by unfold lineD firstD; rw [if_pos rfl, ← HS1l.out, hp])
            have D := Lib.hid (dec_first_no S1 g w2 hS1s (Hv.out.ext (Hat.out.ext.trans Hx2.out)) hp)
            clear hp
            go_wp2_with fail
            refine D.out.mono ?_
            rintro _ w3 ⟨rfl, hx3⟩
            have Hx3 := Lib.hid hx3
            clear hx3
            go_wp2_with fail
            exact bodyPost_ret (v := .tuple #[.pointer none, .int .i64 ((0 : Nat) : Int), .int .i64 2]) (by simp [results, Tryd.results22, go_sem]) rfl (DecPost.no (Hat.out.at_.bad Hh.out HL.out) ((Hat.out.ext.trans Hx2.out).trans Hx3.out))
          | some u =>
            have HL := Lib.hid (show lineD 0 seed es (aheadL 10 R.data.toList) = .ok (u : Int) es by unfold lineD firstD; rw [if_pos rfl, ← HS1l.out, hp, (Hat.out.at_.zero rfl).2])
            have D := Lib.hid (dec_first_yes S1 g b u seed es v w2 hS1s (Hv.out.ext (Hat.out.ext.trans Hx2.out)) hp (Hx2.out.blk Hat.out.box) (Hat.out.ch.ext Hx2.out))
            clear hp
            go_wp2_with fail
            refine D.out.mono ?_
            rintro _ w3 ⟨rfl, hc3, hk3⟩
            have Hn := Lib.hid (Hat.out.next hbw hbg Hh.out HRl.out HL.out hc3 (Keeps.then_ (Hx2.out.keeps _) hk3 (fun _ _ h => h.1)))
            clear hc3 hk3
            go_wp2_with fail
            go_roundw
            case rel => exact ⟨1, R', _, _, _, rfl, by go_num, rfl, Hn.out⟩
            case measure => simp [strLen]; omega
        · rw [readV_pos g n hz]
          have htest2 : ((n : Int) == 0) = false ∧ R.toList.isEmpty = false := by
            rcases htest with h1 | h1
            · exact absurd h1 (by simpa using hz)
            · exact h1
          obtain ⟨t1, t2⟩ := htest2
          have hes : es.length ≤ 100000 := by omega
          have hnl : n ≤ 100001 := by have := Hat.out.at_.len hz; omega
          clear htest
          go_wp2_with fail
          refine C.out.mono ?_
          rintro _ w2 ⟨rfl, hx2⟩
          have Hx2 := Lib.hid hx2
          clear hx2
          cases hp : entP S1.data.toList with
          | none =>
            have HL := Lib.hid (show lineD n seed es (aheadL 10 R.data.toList) = .no 2 by unfold lineD entD; rw [if_neg hz, ← HS1l.out, hp])
            have D := Lib.hid (dec_entry_no S1 g w2 hS1s (Hv.out.ext (Hat.out.ext.trans Hx2.out)) hp)
            clear hp
            go_wp2_with fail
            refine D.out.mono ?_
            rintro _ w3 ⟨rfl, hx3⟩
            have Hx3 := Lib.hid hx3
            clear hx3
            go_wp2_with fail
            exact bodyPost_ret (v := .tuple #[.pointer none, .int .i64 (n : Int), .int .i64 2]) (by simp [results, Tryd.results22, go_sem]) rfl (DecPost.no (Hat.out.at_.bad Hh.out HL.out) ((Hat.out.ext.trans Hx2.out).trans Hx3.out))
          | some E =>
            by_cases hsum : E.sum = sumE (aheadOf seed es) E
            · have HL := Lib.hid (show lineD n seed es (aheadL 10 R.data.toList) = .ok seed (es ++ [E]) by unfold lineD entD; rw [if_neg hz, ← HS1l.out, hp]; exact if_pos hsum)
              have D := Lib.hid (dec_entry_yes S1 g b seed es v E w2 hS1s (Hv.out.ext (Hat.out.ext.trans Hx2.out)) hp (entP_some hp).1 (Hx2.out.blk Hat.out.box) (Hat.out.ch.ext Hx2.out) hes hsum)
              clear hp hsum
              go_wp2_with fail
              refine D.out.mono ?_
              rintro _ w3 ⟨rfl, v3, hc3, hk3, _⟩
              have Hn := Lib.hid (Hat.out.next hbw hbg Hh.out HRl.out HL.out hc3 (Keeps.then_ (Hx2.out.keeps _) hk3 (fun _ _ h => h)))
              clear hc3 hk3
              go_wp2_with fail
              go_roundw
              case rel => exact ⟨n + 1, R', _, _, _, rfl, by go_num, (readV_pos g (n + 1) (by omega)).symm, Hn.out⟩
              case measure => simp [strLen]; omega
            · have HL := Lib.hid (show lineD n seed es (aheadL 10 R.data.toList) = .no 4 by unfold lineD entD; rw [if_neg hz, ← HS1l.out, hp]; exact if_neg hsum)
              have D := Lib.hid (dec_entry_bad S1 g b seed es v E w2 hS1s (Hv.out.ext (Hat.out.ext.trans Hx2.out)) hp (entP_some hp).1 (Hx2.out.blk Hat.out.box) (Hat.out.ch.ext Hx2.out) hes hsum)
              clear hp hsum
              go_wp2_with fail
              refine D.out.mono ?_
              rintro _ w3 ⟨rfl, hx3⟩
              have Hx3 := Lib.hid hx3
              clear hx3
              go_wp2_with fail
              exact bodyPost_ret (v := .tuple #[.pointer none, .int .i64 (n : Int), .int .i64 4]) (by simp [results, Tryd.results22, go_sem]) rfl (DecPost.no (Hat.out.at_.bad Hh.out HL.out) ((Hat.out.ext.trans Hx2.out).trans Hx3.out))
end Go.Proofs.YtkfcbafmefdhmaaDoor
