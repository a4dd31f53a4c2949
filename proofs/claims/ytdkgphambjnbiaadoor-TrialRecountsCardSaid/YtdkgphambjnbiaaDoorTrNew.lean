/-
  What is proved here: a book of trials is made, or the error that the document says. Conditions: at most a thousand trials, no text is longer than a text can be.
-/
import Derived.Test.YtdkgphambjnbiaaDoorTrIdx
import Derived.Deep.RegionLaw
namespace Go.Proofs.YtdkgphambjnbiaaDoor
open Go Go.RowKit Go.Proofs
attribute [local go_sem ↓] Go.wp_at_zero Go.wp_at_succ

abbrev mapV : Nat → Value := fun k => .map (some k)
abbrev intV : Int → Value := fun z => .int .i64 z
/-- A book lies at block b: its trials, and of each trial's name who is exposed since when. -/
structure BookX (w : World) (b m lim : Nat) (v : Value) (outer : List (ByteArray × Nat)) (ts : List Tr) (xs : ByteArray → List (ByteArray × Int)) : Prop where
  blk : w.heap[b]? = some (.cells #[v, .map (some m)] 82)
  own : Own trR 29 (fun k => b < k ∧ k < lim) w (b + 1) v ts.length ts
  row : ∀ g, v.ownBlock = some g → g < lim
  mb : m < b
  bl : b < lim
  lw : lim ≤ w.heap.size
  mp : Mp (strK (P := Tryd.prog) (kt := 9) Tryd.underlying9) mapV w m outer
  far : ∀ p ∈ outer, lim ≤ p.2
  nd : (outer.map (·.2)).Nodup
  inn : ∀ p ∈ outer, Mp (strK (P := Tryd.prog) (kt := 9) Tryd.underlying9) intV w p.2 (xs p.1)
  none : ∀ name, getM (strK (P := Tryd.prog) (kt := 9) Tryd.underlying9).eq outer name = none → xs name = []
def BookAt (w : World) (b : Nat) (ts : List Tr) (xs : ByteArray → List (ByteArray × Int)) : Prop := ∃ m lim v outer, BookX w b m lim v outer ts xs

def clashB (l : List Tr) (k : Nat) : Bool := match l[k]? with | some t => (l.take k).any (fun o => againstT o t) | none => false
def clashT (l : List Tr) : Bool := (List.range l.length).any (clashB l)
theorem clashT_yes {l : List Tr} {k : Nat} {t : Tr} (h : l[k]? = some t) (hc : (l.take k).any (fun o => againstT o t) = true) : clashT l = true := by
  unfold clashT; rw [List.any_eq_true]
  exact ⟨k, List.mem_range.2 (List.getElem?_eq_some_iff.1 h).1, by simp only [clashB, h]; exact hc⟩
theorem clashT_no {l : List Tr} (h : ∀ k, k < l.length → clashB l k = false) : clashT l = false := by
  rw [Bool.eq_false_iff]; intro hc
  obtain ⟨k, hk, hb⟩ := List.any_eq_true.1 hc
  rw [h k (List.mem_range.1 hk)] at hb; cases hb
def newT (l : List Tr) : Int := if l.all mayT then (if clashT l then 7 else 0) else 1

theorem info_tr : (Tryd.prog.info? 29).map (fun i => (i.zero, i.size, i.bytes)) = some (some (.agg #[.string ⟨#[]⟩, .string ⟨#[]⟩, .int .i64 0, .int .i64 0, .slice none 0 0]), 5, 72) := by kernel_rfl

set_option maxRecDepth 100000 in
set_option maxHeartbeats 4000000 in
theorem new_bad (A : Option Addr) (n c : Nat) (l : List Tr) (ok : Nat → Prop) (w : World) (hs : Sl trR ok w A n l) (hn : n ≤ 1000) (hwf : ∀ t ∈ l, TrWf t) (hm : l.all mayT = false) :
    Calls Tryd.prog 27 #[.slice A n c] w fun e w' => e = .returned (.tuple #[.pointer none, .int .i64 1]) ∧ Ext w w' := by
  have Hs := Lib.hid hs
  have Hl := Lib.hid hs.1
  have Hwf := Lib.hid hwf
  have Hm := Lib.hid hm
  clear hs hwf hm
  go_enter Tryd.func27, Tryd.ntmps27
  go_wp2_with fail
  go_loopw [12] (fun i wr => ∃ k : Nat, k ≤ n ∧ i = .int .i64 k ∧ (l.take k).all mayT = true ∧ Ext w wr) (fun i _ => n - (intOf i).toNat)
  case atStart => exact ⟨0, Nat.zero_le _, rfl, by simp, Keeps.refl _ _⟩
  case round =>
    obtain ⟨k, hk, rfl, hall, hx⟩ := hrel
    have Hall := Lib.hid hall
    have Hx := Lib.hid hx
    clear hall hx
    by_cases hlt : k < n
    · obtain ⟨b, o', t, A', c', rfl, hb, ho, ht, hc', hs', d0, d1, d2, d3, d4⟩ := (Hs.out.ext Hx.out).tr hlt
      have Ht := Lib.hid ht
      have Hs' := Lib.hid hs'
      have Hw := Lib.hid (Hwf.out t (List.mem_of_getElem? ht))
      have i0 : (0 : Int) ≤ (k : Int) := by omega
      have i1 : (k : Int) < (n : Int) := by omega
      clear ht hs'
      cases h7 : mayT t
      · go_wp2_with (go_at_call 16; refine (tr_May t A' c' ok _ (Hs'.out.alloc _) hc' Hw.out).mono ?_; rw [h7]; rintro _ w2 ⟨rfl, hx2⟩; have Hx2 := Lib.hid ((Hx.out.alloc _).trans hx2); clear hx2)
        go_ret2
        exact ⟨rfl, Hx2.out⟩
      · have Hst := Lib.hid (take_step Ht.out Hall.out h7)
        go_wp2_with (go_at_call 16; refine (tr_May t A' c' ok _ (Hs'.out.alloc _) hc' Hw.out).mono ?_; rw [h7]; rintro _ w2 ⟨rfl, hx2⟩; have Hx2 := Lib.hid ((Hx.out.alloc _).trans hx2); clear hx2)
        go_roundw
        case rel => exact ⟨k + 1, by omega, by go_num, Hst.out, Hx2.out⟩
        case measure => simp [intOf]; omega
    · exfalso
      have := all_full (l := l) (n := k) (by have := Hl.out; omega) Hall.out
      rw [Hm.out] at this; cases this
end Go.Proofs.YtdkgphambjnbiaaDoor
