/-
  What is proved here: strconv.Itoa, and the sum of an entry, return what the plain functions say. Conditions: the library's table of powers holds what its text lays; numbers lie from 0 to 2^40.
-/
import Derived.Test.YtkfcbafmefdhmaaDoorEnt5
import Derived.Test.YtkfcbafmefdhmaaDoorHash
import Derived.Test.YtkfcbafmefdhmaaDoorBase2
namespace Go.Proofs.YtkfcbafmefdhmaaDoor
open Go Go.RowKit Go.Proofs Go.Sort
attribute [local go_sem ↓] Go.wp_at_zero Go.wp_at_succ

/-- The library's table of powers of ten holds what its text lays. -/
def Pow (w : World) : Prop := Lib.TabIs Tryd.prog w "internal/strconv.uint64pow10" .u64 Lib.pow10Tab
theorem var_ext {P : Program} {w w' : World} {name : String} {cs : Array Value} (h : Ext w w') (hv : w.var? P name = some cs) : w'.var? P name = some cs := by
  unfold World.var? at *
  cases hg : P.globalNamed name with
  | none => rw [hg] at hv; simp at hv
  | some g =>
    rw [hg] at hv
    simp only [Option.bind_some] at hv ⊢
    cases hb : w.heap[g]? with
    | none => rw [hb] at hv; cases hv
    | some o => rw [h.blk hb]; rw [hb] at hv; exact hv
theorem Pow.ext {w w' : World} (h : Pow w) (hx : Ext w w') : Pow w' := var_ext hx h
theorem Ext.of_grow (w : World) (k : Nat) (os : Array Obj) : Ext w (grow (w.drewN k) os) :=
  ⟨rfl, rfl, rfl, by simp [grow, World.drewN], fun i hi _ => by
    show (w.heap ++ os)[i]? = _
    rw [Array.getElem?_append, if_pos hi]⟩

def itoaB (n : Int) : ByteArray := ⟨(Lib.itoa n).toArray⟩
theorem itoa_c (n : Int) (h0 : 0 ≤ n) (h1 : n ≤ 1099511627776) (w : World) (hp : Pow w) :
    Calls Tryd.prog 48 #[.int .i64 n] w fun e w' => e = .returned (.string (itoaB n)) ∧ Ext w w' := by
  refine (Tryd.strconv_Itoa n (by omega) (by omega) w hp).mono ?_
  rintro e w' ⟨rfl, k, os, rfl⟩
  exact ⟨rfl, Ext.of_grow w k os⟩
theorem decDigits_le (u : Nat) : (Lib.decDigits u).length ≤ u + 1 := by
  induction u using Nat.strongRecOn with
  | _ u ih =>
    unfold Lib.decDigits
    split
    · simp
    · have := ih (u / 10) (by omega)
      simp; omega
theorem itoaB_size (n : Int) (h0 : 0 ≤ n) (h1 : n ≤ 1099511627776) : (itoaB n).size < maxLen := by
  have h := decDigits_le n.toNat
  show (Lib.itoa n).toArray.size < maxLen
  unfold Lib.itoa maxLen
  rw [if_neg (by omega)]
  simp; omega

def sumE (ahead : Int) (e : Ent) : Int := hash ahead (itoaB e.off :: itoaB e.now :: e.person :: e.items)

theorem info_str : (Tryd.prog.info? 9).map (fun i => (i.zero, i.size, i.bytes)) = some (some (.string ⟨#[]⟩), 1, 16) := by kernel_rfl

set_option maxRecDepth 100000 in
set_option maxHeartbeats 1000000 in
theorem sum_fn (g : Nat) (v : Value) (n : Nat) (l : List ByteArray) (base : Nat) (A : Option Addr) (m c : Nat) (l' : List ByteArray) (ok : Nat → Prop) (w : World)
    (hg : w.heap[g]? = some (.cells #[v] 28)) (hown : Own strR 9 (fun _ => True) w base v n l) (hs : Sl strR ok w A m l') (hn : n + m ≤ 1000000) (hb : base ≤ w.heap.size) :
    Calls Tryd.prog 47 #[.slice A m c, .pointer (some ⟨g, 0, none⟩)] w fun e w' => e = .returned (.tuple #[]) ∧ ∃ v', w'.heap[g]? = some (.cells #[v'] 28) ∧ Own strR 9 (fun _ => True) w' base v' (n + m) (l ++ l') ∧
      Keeps (fun k => k ≠ g ∧ v.ownBlock ≠ some k) w w' := by
  obtain ⟨i0, hi0, hz0, hz1, hz2⟩ := info_parts info_str
  obtain ⟨A0, c0, rfl⟩ := hown.form
  have q0 := blk_cell hg 0 rfl
  have f0 := blk_free hg
  have Hg := Lib.hid hg
  have Hsrc := Lib.hid (hs.flat_src (ok' := off (fun _ => True) (.slice A0 n c0)) strR_flat)
  have Hne := Lib.hid (hown.ne_blk hg (by decide))
  clear hs hg
  go_enter Tryd.func47, Tryd.ntmps47
  go_wp2_with (at_builtin; refine wpList_append_Own (ok := fun _ => True) (R := strR) _ rfl (.tmp 3) (.tmp 4) 28 rfl 9 i0 _ 16 base Tryd.underlying28 hi0 hz0 hz1 hz2 rfl (by decide) rfl hown A m c l' rfl Hsrc.out (by omega) (by decide) hb ?_; intro A1 c1 w1 hown1 hg1 hat1; have hw1 := (hg1.block g (Array.getElem?_eq_some_iff.1 Hg.out).1 (Ne.symm Hne.out)).trans Hg.out; have q1 := blk_cell hw1 0 rfl; have f1 := blk_free hw1; have Hw1 := Lib.hid hw1; have Hown1 := Lib.hid hown1; have Hg1 := Lib.hid hg1; have Hat1 := Lib.hid hat1; clear hw1 hown1 hg1 hat1)
  go_end0
  refine ⟨rfl, .slice A1 (n + m) c1, blk_set Hw1.out 0 _, ?_, ?_⟩
  · refine Hown1.out.flat strR_flat (fun k hk => Below.heap_setCell _ _ _ _ ?_)
    rintro rfl
    rcases Hat1.out with e | e
    · exact Hne.out (e.symm.trans hk)
    · have := (Array.getElem?_eq_some_iff.1 Hg.out).1
      rw [e] at hk
      injection hk with hk
      omega
  · refine Keeps.setCell (Keeps.grown (Keeps.refl _ _) Hg1.out (fun k hk _ h => h.2 hk)) (fun _ h => h.1 rfl) _

set_option maxRecDepth 100000 in
set_option maxHeartbeats 2000000 in
theorem aud_sum (ahead : Int) (e : Ent) (A : Option Addr) (c : Nat) (ok : Nat → Prop) (w : World) (hs : Sl strR ok w A e.items.length e.items) (hn : e.items.length ≤ 1000) (hp : e.person.size < maxLen) (hi : ∀ s ∈ e.items, s.size < maxLen)
    (h1 : 0 ≤ e.off) (h2 : e.off ≤ 1099511627776) (h3 : 0 ≤ e.now) (h4 : e.now ≤ 1099511627776) (hpow : Pow w) :
    Calls Tryd.prog 29 #[.int .u64 ahead, .agg #[.int .i64 e.off, .int .i64 e.now, .string e.person, .slice A e.items.length c, .int .u64 e.sum]] w fun r w' => r = .returned (.int .u64 (sumE ahead e)) ∧ Ext w w' := by
  have Hs := Lib.hid hs
  have Hpow := Lib.hid hpow
  clear hs hpow
  go_enter Tryd.func29, Tryd.ntmps29
  go_wp2_with fail
  have gx0 := blk_old (blk_new w (.cells #[.int .i64 e.off, .int .i64 e.now, .string e.person, .slice A e.items.length c, .int .u64 e.sum] 33)) (.cells #[.slice none 0 0] 28)
  have gx1 := blk_new (w.alloc (.cells #[.int .i64 e.off, .int .i64 e.now, .string e.person, .slice A e.items.length c, .int .u64 e.sum] 33)) (.cells #[.slice none 0 0] 28)
  simp only [World.size_alloc] at gx1
  have hxx : Ext w ((w.alloc (.cells #[.int .i64 e.off, .int .i64 e.now, .string e.person, .slice A e.items.length c, .int .u64 e.sum] 33)).alloc (.cells #[.slice none 0 0] 28)) := ((Keeps.refl _ w).alloc _).alloc _
  generalize ((w.alloc (.cells #[.int .i64 e.off, .int .i64 e.now, .string e.person, .slice A e.items.length c, .int .u64 e.sum] 33)).alloc (.cells #[.slice none 0 0] 28)) = X at *
  have hbox : ∀ (Y : World) (j : Nat), Y.heap[w.heap.size]? = some (.cells #[.int .i64 e.off, .int .i64 e.now, .string e.person, .slice A e.items.length c, .int .u64 e.sum] 33) → Y.cell? ⟨w.heap.size, j, none⟩ = #[Value.int .i64 e.off, .int .i64 e.now, .string e.person, .slice A e.items.length c, .int .u64 e.sum][j]? := fun Y j h => by simp [World.cell?, h]
  have Hxx := Lib.hid hxx
  have Hgx1 := Lib.hid gx1
  clear gx1 hxx
  go_region_held3 (fun w' => w'.heap[w.heap.size]? = some (.cells #[.int .i64 e.off, .int .i64 e.now, .string e.person, .slice A e.items.length c, .int .u64 e.sum] 33)) (repeat (first | assumption | with_reducible refine blk_old ?_ _ | with_reducible refine Ext.blk (by assumption) ?_)) (first
    | (go_at_call 48; refine (itoa_c _ (by omega) (by omega) _ (Hpow.out.ext (by repeat (first | assumption | with_reducible exact Hxx.out | with_reducible refine Keeps.drew ?_ | with_reducible refine Keeps.alloc ?_ _)))).mono ?_; rintro _ w1 ⟨rfl, hx1⟩; have hy : Ext w w1 := Keeps.trans (by repeat (first | assumption | with_reducible exact Hxx.out | with_reducible refine Keeps.drew ?_ | with_reducible refine Keeps.alloc ?_ _)) hx1; have hz : Ext X w1 := Keeps.trans (by repeat (first | assumption | with_reducible exact Keeps.refl _ _ | with_reducible refine Keeps.drew ?_)) hx1)
    | (go_at_call 47; refine (sum_fn (w.heap.size + 1) (.slice none 0 0) 0 [] w.heap.size _ 3 3 [itoaB e.off, itoaB e.now, e.person] (fun _ => True) _ (by repeat (first | exact Hgx1.out | with_reducible refine blk_old ?_ _ | with_reducible refine Ext.blk (by assumption) ?_)) Own.nil_ (Sl.new_strs (blk_new _ _) trivial rfl rfl) (by omega) (Keeps.size (ok := fun _ => True) (w := w) (by repeat (first | assumption | with_reducible exact Hxx.out | with_reducible refine Keeps.drew ?_ | with_reducible refine Keeps.alloc ?_ _)))).mono ?_; rintro _ w3 ⟨rfl, v3, g3, hown3, hk3⟩; have gb3 := hk3.blk (g := w.heap.size) (o := .cells #[.int .i64 e.off, .int .i64 e.now, .string e.person, .slice A e.items.length c, .int .u64 e.sum] 33) (by repeat (first | assumption | with_reducible refine blk_old ?_ _ | with_reducible refine Ext.blk (by assumption) ?_)) ⟨by omega, by simp [Value.ownBlock]⟩; have hy3 : Ext w w3 := Keeps.then_ (by repeat (first | assumption | with_reducible exact Hxx.out | with_reducible refine Keeps.drew ?_ | with_reducible refine Keeps.alloc ?_ _)) hk3 (fun k hk _ => ⟨by omega, by simp [Value.ownBlock]⟩)))
  simp only [Nat.zero_add, List.nil_append] at hown3
  obtain ⟨A3, c3, rfl⟩ := hown3.form
  have q3 := blk_cell gb3 3 rfl
  have Hg3 := Lib.hid g3
  have Hgb3 := Lib.hid gb3
  have Hown3 := Lib.hid hown3
  have Hy3 := Lib.hid hy3
  clear hbox g3 gb3 hown3 hy3 hk3 hx1 hy hz gx0
  go_wp2_with fail
  refine (sum_fn (w.heap.size + 1) _ 3 _ w.heap.size A e.items.length c e.items ok _ Hg3.out Hown3.out (Hs.out.ext Hy3.out) (by omega) Hy3.out.size).mono ?_
  rintro _ w4 ⟨rfl, v4, g4, hown4, hk4⟩
  obtain ⟨A4, c4, rfl⟩ := hown4.form
  have q4 := blk_cell g4 0 rfl
  have Hk4 := Lib.hid hk4
  have Hown4 := Lib.hid hown4
  clear hk4 hown4 g4 q3
  go_wp2_with fail
  refine (draw_Hash _ _ _ _ _ _ _ (Hown4.out.sl (ok' := fun _ => True) (fun _ _ _ _ => trivial) (fun _ _ _ => trivial)) (by omega) (fun s hs => ?_)).mono ?_
  · have m1 := itoaB_size e.off h1 h2
    have m2 := itoaB_size e.now h3 h4
    simp only [List.cons_append, List.nil_append, List.mem_cons] at hs
    rcases hs with rfl | rfl | rfl | hs
    · exact Nat.le_of_lt m1
    · exact Nat.le_of_lt m2
    · exact Nat.le_of_lt hp
    · exact Nat.le_of_lt (hi s hs)
  rintro _ w5 ⟨rfl, rfl⟩
  go_wp2_with fail
  go_ret
  refine ⟨by unfold sumE; rfl, Keeps.then_ Hy3.out Hk4.out (fun k hk _ => ⟨by omega, fun e => ?_⟩)⟩
  have := (Hown3.out.lt k e).1
  omega
end Go.Proofs.YtkfcbafmefdhmaaDoor
