/-
  What is proved here: the document's Sum of an entry is what the program's sum is. Conditions: numbers are in range, texts are no longer than a text can be.
-/
import Derived.Test.YtkfcbafmefdhmaaDoorDigits
import Derived.Deep.RegionHeld3
namespace Go.Proofs.YtkfcbafmefdhmaaDoor
open Go Go.RowKit Go.Proofs
attribute [local go_sem ↓] Go.wp_at_zero Go.wp_at_succ

theorem ext_grown {w X Y : World} {g n c : Nat} (hx : Ext w X) (hg : X.grownBy Y (Value.slice (some ⟨g, 0, none⟩) n c).ownBlock) (h : w.heap.size ≤ g) : Ext w Y :=
  Keeps.grown hx hg (fun k hk hl => by injection hk with hk; simp only at hk; omega)
theorem blk_grown {X Y : World} {g n c k : Nat} {o : Obj} (hg : X.grownBy Y (Value.slice (some ⟨g, 0, none⟩) n c).ownBlock) (h : X.heap[k]? = some o) (hne : k ≠ g) : Y.heap[k]? = some o :=
  (hg.block k (Array.getElem?_eq_some_iff.1 h).1 (fun e => hne (by injection e))).trans h

set_option maxRecDepth 100000 in
set_option maxHeartbeats 2000000 in
theorem ref_Sum (ahead : Int) (e : Ent) (A : Option Addr) (c : Nat) (ok : Nat → Prop) (w : World) (hs : Sl strR ok w A e.items.length e.items) (hn : e.items.length ≤ 1000) (hp : e.person.size < maxLen) (hi : ∀ s ∈ e.items, s.size < maxLen)
    (h1 : 0 ≤ e.off) (h2 : e.off ≤ 1099511627776) (h3 : 0 ≤ e.now) (h4 : e.now ≤ 1099511627776) :
    Calls Tryd.prog 12 #[.int .u64 ahead, .agg #[.int .i64 e.off, .int .i64 e.now, .string e.person, .slice A e.items.length c, .int .u64 e.sum]] w fun r w' => r = .returned (.int .u64 (sumE ahead e)) ∧ Ext w w' := by
  have Hs := Lib.hid hs
  have Hl := Lib.hid (show ∀ s ∈ itoaB e.off :: itoaB e.now :: e.person :: e.items, s.size < maxLen from fun s hs => by
    have m1 := itoaB_size e.off h1 h2
    have m2 := itoaB_size e.now h3 h4
    simp only [List.mem_cons] at hs
    rcases hs with rfl | rfl | rfl | hs
    · exact m1
    · exact m2
    · exact hp
    · exact hi s hs)
  clear hs hi
  obtain ⟨i0, hi0, hz0, hz1, hz2⟩ := info_parts info_str
  go_enter Tryd.func12, Tryd.ntmps12
  go_wp2_with fail
  have gx0 := blk_new w (.cells #[.int .i64 e.off, .int .i64 e.now, .string e.person, .slice A e.items.length c, .int .u64 e.sum] 30)
  have hxx : Ext w (w.alloc (.cells #[.int .i64 e.off, .int .i64 e.now, .string e.person, .slice A e.items.length c, .int .u64 e.sum] 30)) := (Keeps.refl _ w).alloc _
  generalize (w.alloc (.cells #[.int .i64 e.off, .int .i64 e.now, .string e.person, .slice A e.items.length c, .int .u64 e.sum] 30)) = X at *
  have hbox : ∀ (Y : World) (j : Nat), Y.heap[w.heap.size]? = some (.cells #[.int .i64 e.off, .int .i64 e.now, .string e.person, .slice A e.items.length c, .int .u64 e.sum] 30) → Y.cell? ⟨w.heap.size, j, none⟩ = (#[.int .i64 e.off, .int .i64 e.now, .string e.person, .slice A e.items.length c, .int .u64 e.sum] : Array Value)[j]? := fun Y j h => by simp [World.cell?, h]
  have Hxx := Lib.hid hxx
  clear hxx
  go_region_held3 (fun w' => w'.heap[w.heap.size]? = some (.cells #[.int .i64 e.off, .int .i64 e.now, .string e.person, .slice A e.items.length c, .int .u64 e.sum] 30)) (repeat (first | assumption | with_reducible refine blk_old ?_ _)) (first
    | (go_at_call 26; refine (ref_Digits _ (by omega) (by omega) _).mono ?_; rintro _ w1 ⟨rfl, hx1⟩; have hy : Ext w w1 := Keeps.trans (by repeat (first | assumption | with_reducible exact Hxx.out | with_reducible refine Keeps.drew ?_ | with_reducible refine Keeps.alloc ?_ _)) hx1; have gb1 := hx1.blk (g := w.heap.size) (o := .cells #[.int .i64 e.off, .int .i64 e.now, .string e.person, .slice A e.items.length c, .int .u64 e.sum] 30) (by repeat (first | assumption | with_reducible refine blk_old ?_ _)))
    | (refine step_append_Own (ok := fun _ => True) (R := strR) _ rfl (.tmp 14) (.tmp 16) 28 rfl 9 i0 _ 16 w.heap.size Tryd.underlying28 hi0 hz0 hz1 hz2 rfl (by decide) rfl (Own.new_strs (l := [itoaB e.off, itoaB e.now, e.person]) (blk_new _ _) (Keeps.size (ok := fun _ => True) (w := w) (by repeat (first | assumption | with_reducible exact Hxx.out | with_reducible refine Keeps.drew ?_ | with_reducible refine Keeps.alloc ?_ _))) rfl (by decide) rfl) A e.items.length c e.items rfl ((Hs.out.ext (by repeat (first | assumption | with_reducible exact Hxx.out | with_reducible refine Keeps.drew ?_ | with_reducible refine Keeps.alloc ?_ _))).flat_src strR_flat) (by omega) (by decide) (Keeps.size (ok := fun _ => True) (w := w) (by repeat (first | assumption | with_reducible exact Hxx.out | with_reducible refine Keeps.drew ?_ | with_reducible refine Keeps.alloc ?_ _))) ?_; intro A4 c4 w4 hown4 hg4 hat4; have hlt4 := (Array.getElem?_eq_some_iff.1 gb1).1; have gb4 := blk_grown hg4 (blk_old gb1 _) (Nat.ne_of_lt hlt4); have hy4 : Ext w w4 := ext_grown (by repeat (first | assumption | with_reducible exact Hxx.out | with_reducible refine Keeps.drew ?_ | with_reducible refine Keeps.alloc ?_ _)) hg4 (Nat.le_of_lt hlt4))
    | (go_at_call 24; refine (ref_Hash _ _ _ _ _ _ _ (hown4.sl (ok' := fun _ => True) (fun _ _ _ _ => trivial) (fun _ _ _ => trivial)) (by omega) Hl.out).mono ?_; rintro _ w5 ⟨rfl, rfl⟩))
  have Hy4 := Lib.hid hy4
  clear hbox hy4 hown4 hg4 hat4
  go_wp2_with fail
  go_ret
  exact ⟨by unfold sumE; rfl, Hy4.out⟩

/-- The place of the first entry that isn't right. -/
def checkL : Int → List Ent → Nat
  | _, [] => 0
  | ahead, e :: es => if mayE e && decide (e.sum = sumE ahead e) then checkL e.sum es + 1 else 0
/-- From here on: entries es are left, of es0; k are right. -/
structure CheckAt (seed : Int) (es0 : List Ent) (k : Nat) (ahead : Int) : Prop where
  eq : checkL seed es0 = k + checkL ahead (es0.drop k)
theorem CheckAt.start (seed : Int) (es : List Ent) : CheckAt seed es 0 seed := ⟨by simp⟩
theorem CheckAt.step {seed : Int} {es : List Ent} {k : Nat} {ahead : Int} {e : Ent} (h : CheckAt seed es k ahead) (he : es[k]? = some e) (h1 : mayE e = true) (h2 : e.sum = sumE ahead e) : CheckAt seed es (k + 1) e.sum := by
  refine ⟨?_⟩
  have hk : k < es.length := (List.getElem?_eq_some_iff.1 he).1
  have hd : es.drop k = e :: es.drop (k + 1) := by rw [List.drop_eq_getElem_cons hk, (List.getElem?_eq_some_iff.1 he).2]
  rw [h.eq, hd]
  have h3 : decide (e.sum = sumE ahead e) = true := by simpa using h2
  simp only [checkL, h1, h3, Bool.and_self, if_true]
  omega
theorem CheckAt.stop {seed : Int} {es : List Ent} {k : Nat} {ahead : Int} {e : Ent} (h : CheckAt seed es k ahead) (he : es[k]? = some e) (h1 : mayE e = false ∨ e.sum ≠ sumE ahead e) : checkL seed es = k := by
  have hk : k < es.length := (List.getElem?_eq_some_iff.1 he).1
  have hd : es.drop k = e :: es.drop (k + 1) := by rw [List.drop_eq_getElem_cons hk, (List.getElem?_eq_some_iff.1 he).2]
  have h3 : (mayE e && decide (e.sum = sumE ahead e)) = false := by
    rcases h1 with h1 | h1
    · simp [h1]
    · simp [h1]
  rw [h.eq, hd]
  simp [checkL, h3]
theorem CheckAt.done {seed : Int} {es : List Ent} {ahead : Int} (h : CheckAt seed es es.length ahead) : checkL seed es = es.length := by
  rw [h.eq]; simp [checkL]
end Go.Proofs.YtkfcbafmefdhmaaDoor
