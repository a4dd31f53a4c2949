/-
  What is proved here: an audit's first line, and an entry's line, are what the plain functions say. Conditions: the library's table of powers holds what its text lays; numbers are in range, texts are short.
-/
import Derived.Test.YtkfcbafmefdhmaaDoorFmtU
import Derived.Test.YtkfcbafmefdhmaaDoorBytes
namespace Go.Proofs.YtkfcbafmefdhmaaDoor
open Go Go.RowKit Go.Proofs
attribute [local go_sem ↓] Go.wp_at_zero Go.wp_at_succ

def headL (seed : Int) : List UInt8 := [97, 117, 100, 105, 116, 32] ++ Lib.decDigits seed.toNat
def itemsL (items : List ByteArray) : List UInt8 := if items.length = 0 then [46] else Lib.join (items.map (·.data.toList)) [44]
def lineL (e : Ent) : List UInt8 := Lib.join [Lib.itoa e.off, Lib.itoa e.now, e.person.data.toList, itemsL e.items, Lib.decDigits e.sum.toNat] [32]

theorem join_len (xs : List (List UInt8)) (sep : List UInt8) (k : Nat) (h : ∀ x ∈ xs, x.length ≤ k) : (Lib.join xs sep).length ≤ xs.length * (k + sep.length) := by
  unfold Lib.join List.intercalate
  induction xs with
  | nil => simp
  | cons x xs ih =>
    have hx := h x (by simp)
    have := ih (fun y hy => h y (by simp [hy]))
    cases xs with
    | nil => simp; omega
    | cons y ys =>
      simp only [List.intersperse_cons_cons, List.flatten_cons, List.length_append, List.length_cons] at this ⊢
      rw [Nat.succ_mul (ys.length + 1)]
      omega

set_option maxHeartbeats 1000000 in
theorem aud_head (n : Int) (h0 : 0 ≤ n) (h1 : n < 18446744073709551616) (w : World) (hp : Pow w) :
    Calls Tryd.prog 32 #[.int .u64 n] w fun e w' => e = .returned (.string ⟨(headL n).toArray⟩) ∧ Ext w w' := by
  obtain ⟨u, rfl⟩ : ∃ u : Nat, n = u := ⟨n.toNat, by omega⟩
  have hsz : (bigB u).size ≤ 1000 := by
    show (Lib.decDigits u).toArray.size ≤ 1000
    simp only [List.size_toArray]
    rw [Lib.decDigits_length]
    rcases Nat.eq_zero_or_pos u with rfl | hu
    · rw [Lib.nDigits_small (by omega)]; omega
    · have := Lib.numDigits_eq u hu (by omega); split at this <;> omega
  have Hp := Lib.hid hp
  clear hp
  go_enter Tryd.func32, Tryd.ntmps32
  go_wp2_with fail
  refine (fmtU u (by omega) _ Hp.out).mono ?_
  rintro e w' ⟨rfl, hx⟩
  have Hx := Lib.hid hx
  clear hx
  go_wp2_with fail
  go_ret
  refine ⟨?_, Hx.out⟩
  unfold headL bigB
  rw [Int.toNat_natCast, ← ByteArray.mk_append_mk]
  rfl

theorem itoa_len (n : Int) (h0 : 0 ≤ n) (h1 : n ≤ 1099511627776) : (Lib.itoa n).length ≤ 1000 := by
  unfold Lib.itoa
  rw [if_neg (by omega), Lib.decDigits_length]
  have h2 : n.toNat < 18446744073709551616 := by omega
  rcases Nat.eq_zero_or_pos n.toNat with h | hu
  · rw [h, Lib.nDigits_small (by omega)]; omega
  · have := Lib.numDigits_eq n.toNat hu h2; split at this <;> omega
theorem dec_len (u : Nat) (h : u < 18446744073709551616) : (Lib.decDigits u).length ≤ 1000 := by
  rw [Lib.decDigits_length]
  rcases Nat.eq_zero_or_pos u with rfl | hu
  · rw [Lib.nDigits_small (by omega)]; omega
  · have := Lib.numDigits_eq u hu h; split at this <;> omega
theorem itemsL_len (items : List ByteArray) (hn : items.length ≤ 1000) (hi : ∀ s ∈ items, s.size ≤ 1000) : (itemsL items).length ≤ 2000000 := by
  unfold itemsL
  split
  · simp
  · have := join_len (items.map (·.data.toList)) [44] 1000 (fun x hx => by
      obtain ⟨s, hs, rfl⟩ := List.mem_map.1 hx
      exact hi s hs)
    simp only [List.length_map, List.length_cons, List.length_nil] at this
    have := Nat.mul_le_mul_right 1001 hn
    omega

/-- strings.Join of texts that read as a list. -/
theorem join_c (A : Option Addr) (n c : Nat) (l : List ByteArray) (sep : ByteArray) (ok : Nat → Prop) (w : World) (hs : Sl strR ok w A n l) (hc : n ≤ c) (hn : n ≤ 1000000) (hlen : (Lib.join (l.map (·.data.toList)) sep.data.toList).length ≤ 140737488355328) :
    Calls Tryd.prog 51 #[.slice A n c, .string sep] w fun e w' => e = .returned (.string ⟨(Lib.join (l.map (·.data.toList)) sep.data.toList).toArray⟩) ∧ Ext w w' := by
  have hl := hs.1
  rcases Nat.eq_zero_or_pos n with rfl | hpos
  · have : l = [] := List.eq_nil_of_length_eq_zero hl
    subst this
    refine (Tryd.strings_Join_none A c sep w).mono ?_
    rintro e w' ⟨rfl, rfl⟩
    exact ⟨rfl, Keeps.refl _ _⟩
  · obtain ⟨b, o, rfl, hb, _, hcell⟩ := hs.2 hpos
    subst hl
    refine (Tryd.strings_Join b o c l sep w (fun j x hx => ?_) hb (by omega) hc hlen).mono ?_
    · obtain ⟨xs, rfl, h⟩ := hcell j x hx
      have := h 0 _ rfl
      simpa [strR] using this
    · rintro e w' ⟨rfl, hbl⟩
      exact ⟨rfl, Ext.of_below hbl⟩

set_option maxRecDepth 100000 in
set_option maxHeartbeats 2000000 in
theorem aud_line (e : Ent) (A : Option Addr) (c : Nat) (ok : Nat → Prop) (w : World) (hs : Sl strR ok w A e.items.length e.items) (hc : e.items.length ≤ c) (hn : e.items.length ≤ 1000) (hp : e.person.size ≤ 1000) (hi : ∀ s ∈ e.items, s.size ≤ 1000)
    (h1 : 0 ≤ e.off) (h2 : e.off ≤ 1099511627776) (h3 : 0 ≤ e.now) (h4 : e.now ≤ 1099511627776) (h5 : 0 ≤ e.sum) (h6 : e.sum < 18446744073709551616) (hpow : Pow w) :
    Calls Tryd.prog 33 #[.agg #[.int .i64 e.off, .int .i64 e.now, .string e.person, .slice A e.items.length c, .int .u64 e.sum]] w fun r w' => r = .returned (.string ⟨(lineL e).toArray⟩) ∧ Ext w w' := by
  obtain ⟨u, hu⟩ : ∃ u : Nat, e.sum = u := ⟨e.sum.toNat, by omega⟩
  have Hs := Lib.hid hs
  have Hi := Lib.hid hi
  have Hpow := Lib.hid hpow
  have Hu := Lib.hid hu
  clear hs hpow hi hu
  have Hfin := Lib.hid (show Lib.join ([itoaB e.off, itoaB e.now, e.person, ⟨(itemsL e.items).toArray⟩, bigB u].map (·.data.toList)) [32] = lineL e by
    unfold lineL; rw [Hu.out, Int.toNat_natCast]; rfl)
  have Hlen := Lib.hid (show (Lib.join ([itoaB e.off, itoaB e.now, e.person, ⟨(itemsL e.items).toArray⟩, bigB u].map (·.data.toList)) (ByteArray.mk #[32]).data.toList).length ≤ 140737488355328 by
    have := join_len ([itoaB e.off, itoaB e.now, e.person, ⟨(itemsL e.items).toArray⟩, bigB u].map (·.data.toList)) (ByteArray.mk #[32]).data.toList 2000000 (fun x hx => by
      simp only [List.map_cons, List.map_nil, List.mem_cons, List.not_mem_nil, or_false] at hx
      have a1 := itoa_len e.off h1 h2
      have a2 := itoa_len e.now h3 h4
      have a3 := itemsL_len e.items hn Hi.out
      have a4 := dec_len u (by have := Hu.out; omega)
      rcases hx with rfl | rfl | rfl | rfl | rfl
      · show (Lib.itoa e.off).length ≤ _; omega
      · show (Lib.itoa e.now).length ≤ _; omega
      · show e.person.size ≤ _; omega
      · exact a3
      · show (Lib.decDigits u).length ≤ _; omega)
    simp only [List.length_map, List.length_cons, List.length_nil] at this
    exact Nat.le_trans this (by decide))
  by_cases hz : e.items.length = 0
  · have Hit := Lib.hid (show (⟨(itemsL e.items).toArray⟩ : ByteArray) = ⟨#[46]⟩ by unfold itemsL; rw [if_pos hz])
    have hz0 : decide ((0 : Int) < (e.items.length : Int)) = false := by rw [decide_eq_false_iff_not]; omega
    have hz1 : decide (0 < e.items.length) = false := by rw [decide_eq_false_iff_not]; omega
    have Hz := Lib.hid hz
    clear hz
    go_enter Tryd.func33, Tryd.ntmps33
    go_wp2_with fail
    have gx0 := blk_new w (.cells #[.int .i64 e.off, .int .i64 e.now, .string e.person, .slice A e.items.length c, .int .u64 e.sum] 33)
    have hxx : Ext w (w.alloc (.cells #[.int .i64 e.off, .int .i64 e.now, .string e.person, .slice A e.items.length c, .int .u64 e.sum] 33)) := (Keeps.refl _ w).alloc _
    generalize (w.alloc (.cells #[.int .i64 e.off, .int .i64 e.now, .string e.person, .slice A e.items.length c, .int .u64 e.sum] 33)) = X at *
    have hbox : ∀ (Y : World) (j : Nat), Y.heap[w.heap.size]? = some (.cells #[.int .i64 e.off, .int .i64 e.now, .string e.person, .slice A e.items.length c, .int .u64 e.sum] 33) → Y.cell? ⟨w.heap.size, j, none⟩ = (#[.int .i64 e.off, .int .i64 e.now, .string e.person, .slice A e.items.length c, .int .u64 e.sum] : Array Value)[j]? := fun Y j h => by simp [World.cell?, h]
    have Hxx := Lib.hid hxx
    clear hxx
    go_region_held3 (fun w' => w'.heap[w.heap.size]? = some (.cells #[.int .i64 e.off, .int .i64 e.now, .string e.person, .slice A e.items.length c, .int .u64 e.sum] 33)) (repeat (first | assumption | with_reducible refine blk_old ?_ _)) (first
      | (go_at_call 48; refine (itoa_c _ (by omega) (by omega) _ (Hpow.out.ext (by repeat (first | assumption | with_reducible exact Hxx.out | with_reducible refine Keeps.drew ?_ | with_reducible refine Keeps.alloc ?_ _)))).mono ?_; rintro _ w1 ⟨rfl, hx1⟩; have hy : Ext w w1 := Keeps.trans (by repeat (first | assumption | with_reducible exact Hxx.out | with_reducible refine Keeps.drew ?_ | with_reducible refine Keeps.alloc ?_ _)) hx1; have gb1 := hx1.blk (g := w.heap.size) (o := .cells #[.int .i64 e.off, .int .i64 e.now, .string e.person, .slice A e.items.length c, .int .u64 e.sum] 33) (by repeat (first | assumption | with_reducible refine blk_old ?_ _)))
      | (go_at_call 50; rw [Hu.out]; refine (fmtU u (by have := Hu.out; omega) _ (Hpow.out.ext (by repeat (first | assumption | with_reducible exact Hxx.out | with_reducible refine Keeps.drew ?_ | with_reducible refine Keeps.alloc ?_ _)))).mono ?_; rintro _ w1 ⟨rfl, hx1⟩; have hy : Ext w w1 := Keeps.trans (by repeat (first | assumption | with_reducible exact Hxx.out | with_reducible refine Keeps.drew ?_ | with_reducible refine Keeps.alloc ?_ _)) hx1; have gb1 := hx1.blk (g := w.heap.size) (o := .cells #[.int .i64 e.off, .int .i64 e.now, .string e.person, .slice A e.items.length c, .int .u64 e.sum] 33) (by repeat (first | assumption | with_reducible refine blk_old ?_ _)))
      | (go_at_call 51; refine (join_c _ 5 5 [itoaB e.off, itoaB e.now, e.person, _, bigB u] _ (fun _ => True) _ (Sl.new_strs (blk_new _ _) trivial rfl rfl) (Nat.le_refl _) (by omega) (by have := Hlen.out; rw [Hit.out] at this; exact this)).mono ?_; rintro _ w1 ⟨rfl, hx1⟩; have hyz : Ext w w1 := Keeps.trans (by repeat (first | assumption | with_reducible exact Hxx.out | with_reducible refine Keeps.drew ?_ | with_reducible refine Keeps.alloc ?_ _)) hx1; have gb1 := hx1.blk (g := w.heap.size) (o := .cells #[.int .i64 e.off, .int .i64 e.now, .string e.person, .slice A e.items.length c, .int .u64 e.sum] 33) (by repeat (first | assumption | with_reducible refine blk_old ?_ _))))
    have Hyz := Lib.hid hyz
    clear hbox hyz
    go_wp2_with fail
    go_ret
    have hyz := Hyz.out
    exact ⟨by rw [← Hfin.out, Hit.out]; rfl, hyz⟩
  · have Hit := Lib.hid (show (⟨(itemsL e.items).toArray⟩ : ByteArray) = ⟨(Lib.join (e.items.map (·.data.toList)) (ByteArray.mk #[44]).data.toList).toArray⟩ by unfold itemsL; rw [if_neg hz])
    have hz0 : (0 : Int) < (e.items.length : Int) := by omega
    have Hz := Lib.hid hz
    clear hz
    have Hjl := Lib.hid (show (Lib.join (e.items.map (·.data.toList)) (ByteArray.mk #[44]).data.toList).length ≤ 140737488355328 by
      have := join_len (e.items.map (·.data.toList)) (ByteArray.mk #[44]).data.toList 1000 (fun x hx => by
        obtain ⟨s, hs, rfl⟩ := List.mem_map.1 hx
        exact Hi.out s hs)
      simp only [List.length_map] at this
      refine Nat.le_trans this (Nat.le_trans (Nat.mul_le_mul_right _ hn) (by decide)))
    go_enter Tryd.func33, Tryd.ntmps33
    go_wp2_with fail
    refine (join_c _ _ _ _ _ _ _ (Hs.out.alloc _) hc (by omega) Hjl.out).mono ?_
    rintro _ w1 ⟨rfl, hx1⟩
    have gx0 := hx1.blk (blk_new w (.cells #[.int .i64 e.off, .int .i64 e.now, .string e.person, .slice A e.items.length c, .int .u64 e.sum] 33))
    have hxx : Ext w w1 := Keeps.trans ((Keeps.refl _ w).alloc _) hx1
    clear hx1
    go_wp2_with fail
    obtain ⟨X, hX⟩ : ∃ X, X = w1 := ⟨_, rfl⟩
    rw [← hX] at gx0 hxx ⊢
    clear hX
    have hbox : ∀ (Y : World) (j : Nat), Y.heap[w.heap.size]? = some (.cells #[.int .i64 e.off, .int .i64 e.now, .string e.person, .slice A e.items.length c, .int .u64 e.sum] 33) → Y.cell? ⟨w.heap.size, j, none⟩ = (#[.int .i64 e.off, .int .i64 e.now, .string e.person, .slice A e.items.length c, .int .u64 e.sum] : Array Value)[j]? := fun Y j h => by simp [World.cell?, h]
    have Hxx := Lib.hid hxx
    clear hxx
    go_region_held3 (fun w' => w'.heap[w.heap.size]? = some (.cells #[.int .i64 e.off, .int .i64 e.now, .string e.person, .slice A e.items.length c, .int .u64 e.sum] 33)) (repeat (first | assumption | with_reducible refine blk_old ?_ _)) (first
      | (go_at_call 48; refine (itoa_c _ (by omega) (by omega) _ (Hpow.out.ext (by repeat (first | assumption | with_reducible exact Hxx.out | with_reducible refine Keeps.drew ?_ | with_reducible refine Keeps.alloc ?_ _)))).mono ?_; rintro _ w1 ⟨rfl, hx1⟩; have hy : Ext w w1 := Keeps.trans (by repeat (first | assumption | with_reducible exact Hxx.out | with_reducible refine Keeps.drew ?_ | with_reducible refine Keeps.alloc ?_ _)) hx1; have gb1 := hx1.blk (g := w.heap.size) (o := .cells #[.int .i64 e.off, .int .i64 e.now, .string e.person, .slice A e.items.length c, .int .u64 e.sum] 33) (by repeat (first | assumption | with_reducible refine blk_old ?_ _)))
      | (go_at_call 50; rw [Hu.out]; refine (fmtU u (by have := Hu.out; omega) _ (Hpow.out.ext (by repeat (first | assumption | with_reducible exact Hxx.out | with_reducible refine Keeps.drew ?_ | with_reducible refine Keeps.alloc ?_ _)))).mono ?_; rintro _ w1 ⟨rfl, hx1⟩; have hy : Ext w w1 := Keeps.trans (by repeat (first | assumption | with_reducible exact Hxx.out | with_reducible refine Keeps.drew ?_ | with_reducible refine Keeps.alloc ?_ _)) hx1; have gb1 := hx1.blk (g := w.heap.size) (o := .cells #[.int .i64 e.off, .int .i64 e.now, .string e.person, .slice A e.items.length c, .int .u64 e.sum] 33) (by repeat (first | assumption | with_reducible refine blk_old ?_ _)))
      | (go_at_call 51; refine (join_c _ 5 5 [itoaB e.off, itoaB e.now, e.person, _, bigB u] _ (fun _ => True) _ (Sl.new_strs (blk_new _ _) trivial rfl rfl) (Nat.le_refl _) (by omega) (by have := Hlen.out; rw [Hit.out] at this; exact this)).mono ?_; rintro _ w1 ⟨rfl, hx1⟩; have hyz : Ext w w1 := Keeps.trans (by repeat (first | assumption | with_reducible exact Hxx.out | with_reducible refine Keeps.drew ?_ | with_reducible refine Keeps.alloc ?_ _)) hx1; have gb1 := hx1.blk (g := w.heap.size) (o := .cells #[.int .i64 e.off, .int .i64 e.now, .string e.person, .slice A e.items.length c, .int .u64 e.sum] 33) (by repeat (first | assumption | with_reducible refine blk_old ?_ _))))
    have Hyz := Lib.hid hyz
    clear hbox hyz
    go_wp2_with fail
    go_ret
    have hyz := Hyz.out
    exact ⟨by rw [← Hfin.out, Hit.out]; rfl, hyz⟩
end Go.Proofs.YtkfcbafmefdhmaaDoor
