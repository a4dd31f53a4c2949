/-
  What is proved here: a counter that forgets, as an object; New, put, Add. Conditions: sums that are no more than what was added.
  panes, as an object; New, of, put, Add. Conditions: sums that are no more than what was added.
  sessions, as an object; New, Add. Conditions: short texts, ticks that may be.
  the crowd, as an object; New. No condition beyond the half.
  the config of a world: that one may be. No condition but those told.
-/
import Derived.Test.YtpkkkhgmkndpdaaGreatDoorOb
import Derived.Test.YtpkkkhgmkndpdaaGreatDoorEvM
import Derived.Laws.Cover3
import Derived.Laws.Closers25b
import Derived.Deep.DrawnRows
import Derived.Test.YtpkkkhgmkndpdaaGreatDoorBase
import Derived.Deep.RegionWith
import Derived.Deep.RegionHeld3
import Derived.RegionTactic
import Derived.Deep.DeepCutAuto
import Derived.BigRegion
import Derived.StillTailTactics
import Derived.Test.YtpkkkhgmkndpdaaGreatDoorMaps
namespace Go.Proofs.YtpkkkhgmkndpdaaGreatDoor
open Go Go.RowKit Go.Proofs
attribute [local go_sem ↓] Go.wp_at_zero Go.wp_at_succ
def mapH (g : Nat) : Value := .map (some g)
def i64V (z : Int) : Value := .int .i64 z
structure Dec where
  half : Int
  added : Nat
  sums : List (ByteArray × List (Int × Int))
def decC (d : Dec) (m : Nat) : Array Value := #[.int .i64 d.half, .int .i64 d.added, .map (some m)]
abbrev DecAt (w : World) (b : Nat) (fp : List Nat) (d : Dec) : Prop := BoxAt 142 decC (mapOb (strK (P := Tryz.prog) (kt := 9) Tryz.underlying9) mapH (mpOb (intK (P := Tryz.prog) (kt := 3) Tryz.underlying3) i64V)) Dec.sums w b fp d
def sumK (l : List (ByteArray × List (Int × Int))) (key : ByteArray) : List (Int × Int) := (getM (fun a b : ByteArray => a == b) l key).getD []
def sumT (l : List (Int × Int)) (a : Int) : Int := (getM (fun a b : Int => decide (a = b)) l a).getD 0
def decPut (d : Dec) (key : ByteArray) (a n : Int) : Dec := if n = 0 then d else { d with sums := putM (fun a b : ByteArray => a == b) d.sums key (putM (fun a b : Int => decide (a = b)) (sumK d.sums key) a (sumT (sumK d.sums key) a + n)) }
theorem eq_map_nilD (m : Option Nat) (w : World) : (binOp .eql 202 (.map m) (.map none)).run Tryz.prog w = .ok (.bool m.isNone) w := by
  simp only [binOp]
  simp [run_equal_map_nil w 202 _ _ m Tryz.underlying202]
theorem zero_mi (w : World) : (zeroValue 202).run Tryz.prog w = .ok (.map none) w := by kernel_rfl
theorem zero_i64 (w : World) : (zeroValue 2).run Tryz.prog w = .ok (.int .i64 0) w := by kernel_rfl

set_option maxRecDepth 100000 in
set_option maxHeartbeats 2000000 in
theorem dec_put (b : Nat) (fp : List Nat) (d : Dec) (key : ByteArray) (a n : Int) (w : World) (h : DecAt w b fp d) (hs0 : 0 ≤ sumT (sumK d.sums key) a) (hs1 : sumT (sumK d.sums key) a ≤ 1099511627776) (hn0 : 0 ≤ n) (hn1 : n ≤ 1099511627776) :
    Calls Tryz.prog 104 #[.pointer (some ⟨b, 0, none⟩), .string key, .int .i64 a, .int .i64 n] w fun r w' => r = .returned (.tuple #[]) ∧ ∃ fp', DecAt w' b fp' (decPut d key a n) ∧ Turned fp fp' w w' := by
  by_cases h0 : n = 0
  · subst h0
    have Hd := Lib.hid (show decPut d key a 0 = d by unfold decPut; rw [if_pos rfl])
    have Hh := Lib.hid h
    clear h hs0 hs1
    go_enter Tryz.func104, Tryz.ntmps104
    go_wp2_with fail
    exact ⟨rfl, .tuple #[], by simp [results, Tryz.results104], rfl, fp, by rw [Hd.out]; exact Hh.out, Turned.refl _ _⟩
  · obtain ⟨m, f, hb, hr, hfp, hnd⟩ := h
    subst hfp
    have q2 : w.cell? ⟨b, 2, none⟩ = some (.map (some m)) := blk_cell hb 2 rfl
    have hmm := @run_makeMap Tryz.prog
    have hE0 := eq_map_nilD none
    have hE1 := fun (k : Nat) => eq_map_nilD (some k)
    simp only [Option.isNone_none, Option.isNone_some] at hE0 hE1
    have hn9 : decide (n = 0) = false := by simpa using h0
    have hbf : b ∉ f := (List.nodup_cons.1 hnd).1
    have hbl : b < w.heap.size := (Array.getElem?_eq_some_iff.1 hb).1
    have Hdp := Lib.hid (show decPut d key a n = { d with sums := putM (fun a b : ByteArray => a == b) d.sums key (putM (fun a b : Int => decide (a = b)) (sumK d.sums key) a (sumT (sumK d.sums key) a + n)) } by unfold decPut; rw [if_neg h0])
    cases hg : getM (fun a b : ByteArray => a == b) d.sums key with
    | none =>
      have hk0 : sumK d.sums key = [] := by unfold sumK; rw [hg]; rfl
      have ht0 : sumT (sumK d.sums key) a = 0 := by rw [hk0]; rfl
      rw [ht0, hk0] at Hdp
      clear hs0 hs1
      have L1 : (Instr.lookup 140 (.map (some m)) (.string key) false).run Tryz.prog w = .ok (.map none) w := MapOf.look_none (K := (strK (P := Tryz.prog) (kt := 9) Tryz.underlying9)) hr hg Tryz.underlying140 (zero_mi w) (Keeps.refl _ _) false
      obtain ⟨W3, fp3, P1, hmo3, ht3, hk3⟩ := MapOf.insert (K := (strK (P := Tryz.prog) (kt := 9) Tryz.underlying9)) hr hg Tryz.underlying140 (W := w.alloc (.map #[] 0)) (x := w.heap.size) (f := [w.heap.size]) (a := []) ⟨Mp.new w, rfl⟩ ((Keeps.refl _ _).alloc _) (by simp)
      have P1' : (Instr.mapUpdate 140 (.map (some m)) (.string key) (.map (some w.heap.size))).run Tryz.prog (w.alloc (.map #[] 0)) = .ok () W3 := P1
      have hb3 : W3.heap[b]? = some (.cells (decC d m) 142) := ht3.keeps.blk hb hbf
      have q3 : W3.cell? ⟨b, 2, none⟩ = some (.map (some m)) := blk_cell hb3 2 rfl
      obtain ⟨x, f4, hrx, _, _, hlx, hfx, _⟩ := hmo3.focus (getM_putM_self (strK (P := Tryz.prog) (kt := 9) Tryz.underlying9) d.sums key [])
      obtain ⟨hmx, rfl⟩ := hrx
      have L3 : (Instr.lookup 140 (.map (some m)) (.string key) false).run Tryz.prog W3 = .ok (.map (some x)) W3 := hlx Tryz.underlying140 (zero_mi W3) (Keeps.refl _ _) false
      have L4 : (Instr.lookup 202 (.map (some x)) (.int .i64 a) false).run Tryz.prog W3 = .ok (.int .i64 0) W3 := hmx.look Tryz.underlying202 (zero_i64 W3) a false
      obtain ⟨W5, P2, hm5, hk5, _⟩ := hmx.put Tryz.underlying202 a n
      have P2' : (Instr.mapUpdate 202 (.map (some x)) (.int .i64 a) (.int .i64 n)).run Tryz.prog W3 = .ok () W5 := P2
      have ht5 : Turned [x] [x] W3 W5 := ⟨hk5.mono (fun g _ hg e => hg (by simp [e])), fun g hg => .inl hg⟩
      obtain ⟨fp5, hmo5, ht6⟩ := hfx W5 [x] _ ⟨hm5, rfl⟩ ht5
      rw [putM_putM] at hmo5
      have Hfin := Lib.hid (show DecAt W5 b (b :: fp5) (decPut d key a n) ∧ Turned (b :: f) (b :: fp5) w W5 from BoxAt.turn hb hbf (by rw [Hdp.out, Int.zero_add]; exact hmo5) (ht3.trans ht6) (by rw [Hdp.out]; rfl))
      clear hb hb3 hr P1 P2 hmo3 ht3 hk3 hmx hlx hfx hm5 hk5 ht5 hmo5 ht6 hnd Hdp
      go_enter Tryz.func104, Tryz.ntmps104
      go_wp2_with fail
      exact ⟨rfl, .tuple #[], by simp [results, Tryz.results104], rfl, _, Hfin.out⟩
    | some row =>
      have hk0 : sumK d.sums key = row := by unfold sumK; rw [hg]; rfl
      rw [hk0] at Hdp hs0 hs1
      obtain ⟨x, f4, hrx, _, _, hlx, hfx, _⟩ := MapOf.focus (K := (strK (P := Tryz.prog) (kt := 9) Tryz.underlying9)) hr hg
      obtain ⟨hmx, rfl⟩ := hrx
      obtain ⟨z, hz⟩ : ∃ z, z = sumT row a := ⟨_, rfl⟩
      rw [← hz] at Hdp hs0 hs1
      have L3 : (Instr.lookup 140 (.map (some m)) (.string key) false).run Tryz.prog w = .ok (.map (some x)) w := hlx Tryz.underlying140 (zero_mi w) (Keeps.refl _ _) false
      have L4 : (Instr.lookup 202 (.map (some x)) (.int .i64 a) false).run Tryz.prog w = .ok (.int .i64 z) w := by
        rw [hz]; exact hmx.look1 (z := 0) Tryz.underlying202 (zero_i64 w) a
      obtain ⟨W5, P2, hm5, hk5, _⟩ := hmx.put Tryz.underlying202 a (z + n)
      have P2' : (Instr.mapUpdate 202 (.map (some x)) (.int .i64 a) (.int .i64 (z + n))).run Tryz.prog w = .ok () W5 := P2
      have ht5 : Turned [x] [x] w W5 := ⟨hk5.mono (fun g _ hg e => hg (by simp [e])), fun g hg => .inl hg⟩
      obtain ⟨fp5, hmo5, ht6⟩ := hfx W5 [x] _ ⟨hm5, rfl⟩ ht5
      have Hfin := Lib.hid (show DecAt W5 b (b :: fp5) (decPut d key a n) ∧ Turned (b :: f) (b :: fp5) w W5 from BoxAt.turn hb hbf (by rw [Hdp.out]; exact hmo5) ht6 (by rw [Hdp.out]; rfl))
      clear hb hr P2 hmx hlx hfx hm5 hk5 ht5 hmo5 ht6 hnd Hdp hz
      go_enter Tryz.func104, Tryz.ntmps104
      go_wp2_with fail
      exact ⟨rfl, .tuple #[], by simp [results, Tryz.results104], rfl, _, Hfin.out⟩
/-- No sum is more than what was added. -/
def DecOk (d : Dec) : Prop := ∀ (key : ByteArray) (a : Int), 0 ≤ sumT (sumK d.sums key) a ∧ sumT (sumK d.sums key) a ≤ 1048576 * (d.added : Int)
theorem sumK_self (l : List (ByteArray × List (Int × Int))) (k : ByteArray) (v : List (Int × Int)) : sumK (putM (fun a b : ByteArray => a == b) l k v) k = v := congrArg (fun o => Option.getD o []) (getM_putM_self (strK (P := Tryz.prog) (kt := 9) Tryz.underlying9) l k v)
theorem sumK_ne (l : List (ByteArray × List (Int × Int))) {k k' : ByteArray} (v : List (Int × Int)) (h : k' ≠ k) : sumK (putM (fun a b : ByteArray => a == b) l k v) k' = sumK l k' := congrArg (fun o => Option.getD o []) (getM_putM_ne (strK (P := Tryz.prog) (kt := 9) Tryz.underlying9) l v h)
theorem sumT_self (l : List (Int × Int)) (k v : Int) : sumT (putM (fun a b : Int => decide (a = b)) l k v) k = v := congrArg (fun o => Option.getD o 0) (getM_putM_self (intK (P := Tryz.prog) (kt := 3) Tryz.underlying3) l k v)
theorem sumT_ne (l : List (Int × Int)) {k k' : Int} (v : Int) (h : k' ≠ k) : sumT (putM (fun a b : Int => decide (a = b)) l k v) k' = sumT l k' := congrArg (fun o => Option.getD o 0) (getM_putM_ne (intK (P := Tryz.prog) (kt := 3) Tryz.underlying3) l v h)
def decAdd (d : Dec) (key : ByteArray) (a n : Int) : Dec := decPut { d with added := d.added + 1 } key a n
theorem decAdd_ok {d : Dec} (h : DecOk d) (key : ByteArray) (a : Int) {n : Int} (h0 : 0 ≤ n) (h1 : n ≤ 1048576) : DecOk (decAdd d key a n) := by
  intro k x
  have hh := h k x
  have e1 : ((d.added + 1 : Nat) : Int) = (d.added : Int) + 1 := by omega
  unfold decAdd decPut
  by_cases hn : n = 0
  · rw [if_pos hn]; simp only; rw [e1]; omega
  · rw [if_neg hn]
    simp only
    by_cases hk : k = key
    · subst hk
      rw [sumK_self]
      by_cases hx : x = a
      · subst hx
        rw [sumT_self, e1]; omega
      · rw [sumT_ne _ _ hx, e1]; omega
    · rw [sumK_ne _ _ hk, e1]; omega
set_option maxRecDepth 100000 in
set_option maxHeartbeats 2000000 in
theorem dec_Add (b : Nat) (fp : List Nat) (d : Dec) (key : ByteArray) (a n : Int) (w : World) (h : DecAt w b fp d) (hok : DecOk d) (hk0 : 1 ≤ key.size) (hk1 : key.size ≤ 24) (ha0 : 0 ≤ a) (ha1 : a ≤ 1099511627776) (hn0 : 0 ≤ n) (hn1 : n ≤ 1048576) (had : d.added < 1048576) :
    Calls Tryz.prog 82 #[.pointer (some ⟨b, 0, none⟩), .string key, .int .i64 a, .int .i64 n] w fun r w' => r = .returned (.bool true) ∧ ∃ fp', DecAt w' b fp' (decAdd d key a n) ∧ Turned fp fp' w w' := by
  obtain ⟨hb1, ht1⟩ := BoxAt.store (a' := { d with added := d.added + 1 }) (j := 1) (u := .int .i64 ((d.added : Int) + 1)) h (fun _ => by simp [decC]) rfl
  have hs := hok key a
  have HP := Lib.hid (dec_put b fp { d with added := d.added + 1 } key a n _ hb1 hs.1 (by show sumT (sumK d.sums key) a ≤ _; omega) hn0 (by omega))
  have Ht1 := Lib.hid ht1
  obtain ⟨m, f, hb, hr, hfp, hnd⟩ := h
  have q1 : w.cell? ⟨b, 1, none⟩ = some (.int .i64 d.added) := blk_cell hb 1 rfl
  have f1 := blk_free hb
  have hbl : b < w.heap.size := (Array.getElem?_eq_some_iff.1 hb).1
  clear hb hr hfp hnd hb1 ht1 hs hok
  go_enter Tryz.func82, Tryz.ntmps82
  go_wp2_with (go_at_call 104; refine HP.out.mono ?_; rintro _ w2 ⟨rfl, fp2, hd2, ht2⟩; have Hd2 := Lib.hid hd2; have Ht2 := Lib.hid ht2; clear hd2 ht2)
  go_ret
  exact ⟨rfl, fp2, Hd2.out, Ht1.out.trans Ht2.out⟩
set_option maxRecDepth 100000 in
set_option maxHeartbeats 2000000 in
theorem dec_New (half : Int) (w : World) (h0 : 1 ≤ half) (h1 : half ≤ 1099511627776) :
    Calls Tryz.prog 68 #[.int .i64 half] w fun r w' => ∃ b fp, r = .returned (.pointer (some ⟨b, 0, none⟩)) ∧ DecAt w' b fp ⟨half, 0, []⟩ ∧ Ext w w' ∧ ∀ g ∈ fp, w.heap.size ≤ g := by
  have hmm := @run_makeMap Tryz.prog
  go_enter Tryz.func68, Tryz.ntmps68
  go_wp2_with fail
  go_ret
  exact ⟨w.heap.size + 1, [w.heap.size + 1, w.heap.size], rfl, BoxAt.new (h := w.heap.size) (f := [w.heap.size]) (blk_at _ _ (by simp)) (Ob.ext (O := (mapOb (strK (P := Tryz.prog) (kt := 9) Tryz.underlying9) mapH (mpOb (intK (P := Tryz.prog) (kt := 3) Tryz.underlying3) i64V))) (MapOf.new w) ((Keeps.refl _ _).alloc _)) (by simp), ((Keeps.refl _ _).alloc _).alloc _, by simp⟩
end Go.Proofs.YtpkkkhgmkndpdaaGreatDoor
namespace Go.Proofs.YtpkkkhgmkndpdaaGreatDoor
open Go Go.RowKit Go.Proofs
attribute [local go_sem ↓] Go.wp_at_zero Go.wp_at_succ
def cellF0 : Field := { name := "key", type := 9, offset := 0, embedded := false, tag := "", pkgPath := "cicerone/pane", byteOffset := 0 }
def cellF1 : Field := { name := "pane", type := 3, offset := 1, embedded := false, tag := "", pkgPath := "cicerone/pane", byteOffset := 16 }
theorem cellT : IdT Tryz.prog 173 cellF0 cellF1 := ⟨Tryz.underlying173, by decide, by decide, Tryz.underlying9, Tryz.underlying3, rfl, rfl, by kernel_rfl⟩
structure Pan where
  width : Int
  added : Nat
  sums : List (Idt × Int)
  rows : List (ByteArray × List Int)
def panC (p : Pan) (h : Nat × Nat) : Array Value := #[.int .i64 p.width, .int .i64 p.added, .map (some h.1), .map (some h.2)]
def Pan.sub (p : Pan) : List (Idt × Int) × List (ByteArray × List Int) := (p.sums, p.rows)
abbrev PanAt (w : World) (b : Nat) (fp : List Nat) (p : Pan) : Prop := BoxAt 146 panC (pairOb (mpOb (idK cellT) i64V) (mapOb (strK (P := Tryz.prog) (kt := 9) Tryz.underlying9) (fun v : Value => v) (rowOb intR 3))) Pan.sub w b fp p
def sumC (l : List (Idt × Int)) (c : Idt) : Int := (getM (fun a b : Idt => a.1 == b.1 && a.2 == b.2) l c).getD 0
def rowK (l : List (ByteArray × List Int)) (key : ByteArray) : List Int := (getM (fun a b : ByteArray => a == b) l key).getD []
def panPut (p : Pan) (c : Idt) (n : Int) : Pan := if n = 0 then p else { p with sums := putM (fun a b : Idt => a.1 == b.1 && a.2 == b.2) p.sums c (sumC p.sums c + n), rows := if sumC p.sums c = 0 then putM (fun a b : ByteArray => a == b) p.rows c.1 (rowK p.rows c.1 ++ [c.2]) else p.rows }
theorem zero_si (w : World) : (zeroValue 96).run Tryz.prog w = .ok (.slice none 0 0) w := by kernel_rfl
theorem info_int : (Tryz.prog.info? 3).map (fun i => (i.zero, i.size, i.bytes)) = some (some (.int .i64 0), 1, 8) := by kernel_rfl
theorem info_of {t : TypeId} {z : Option Value} {a b : Nat} (h : (Tryz.prog.info? t).map (fun i => (i.zero, i.size, i.bytes)) = some (z, a, b)) : ∃ i, Tryz.prog.info? t = some i ∧ i.zero = z ∧ i.size = a ∧ i.bytes = b := by
  cases hi : Tryz.prog.info? t with
  | none => rw [hi] at h; simp at h
  | some i => rw [hi] at h; simp at h; exact ⟨i, rfl, h.1, h.2.1, h.2.2⟩
set_option maxRecDepth 100000 in
set_option maxHeartbeats 2000000 in
theorem pan_New (width : Int) (w : World) (h0 : 1 ≤ width) (h1 : width ≤ 1099511627776) :
    Calls Tryz.prog 69 #[.int .i64 width] w fun r w' => ∃ b fp, r = .returned (.pointer (some ⟨b, 0, none⟩)) ∧ PanAt w' b fp ⟨width, 0, [], []⟩ ∧ Ext w w' ∧ ∀ g ∈ fp, w.heap.size ≤ g := by
  have hmm := @run_makeMap Tryz.prog
  go_enter Tryz.func69, Tryz.ntmps69
  go_wp2_with fail
  go_ret
  refine ⟨w.heap.size + 2, [w.heap.size + 2, w.heap.size, w.heap.size + 1], rfl, BoxAt.new (h := (w.heap.size, w.heap.size + 1)) (f := [w.heap.size, w.heap.size + 1]) (blk_at _ _ (by simp)) ⟨[w.heap.size], [w.heap.size + 1], ⟨((Mp.new w).ext ((Keeps.refl _ _).alloc _)).ext ((Keeps.refl _ _).alloc _), rfl⟩, ?_, rfl, by simp⟩ (by simp), (((Keeps.refl _ _).alloc _).alloc _).alloc _, by simp⟩
  have h9 := MapOf.new (K := (strK (P := Tryz.prog) (kt := 9) Tryz.underlying9)) (V := fun v : Value => v) (O := (rowOb intR 3)) (w.alloc (.map #[] 0))
  rw [show (w.alloc (.map #[] 0)).heap.size = w.heap.size + 1 by simp] at h9
  exact Ob.ext (O := mapOb (strK (P := Tryz.prog) (kt := 9) Tryz.underlying9) (fun v : Value => v) (rowOb intR 3)) h9 ((Keeps.refl _ _).alloc _)
set_option maxRecDepth 100000 in
set_option maxHeartbeats 2000000 in
theorem pan_of (b : Nat) (fp : List Nat) (p : Pan) (a : Int) (w : World) (h : PanAt w b fp p) (hw0 : 1 ≤ p.width) (hw1 : p.width ≤ 1099511627776) (ha0 : 0 ≤ a) (ha1 : a ≤ 1099511627776) :
    Calls Tryz.prog 106 #[.pointer (some ⟨b, 0, none⟩), .int .i64 a] w fun r w' => r = .returned (.int .i64 (a / p.width)) ∧ w = w' := by
  obtain ⟨m, f, hb, hr, hfp, hnd⟩ := h
  have q0 : w.cell? ⟨b, 0, none⟩ = some (.int .i64 p.width) := blk_cell hb 0 rfl
  clear hb hr hfp hnd
  generalize p.width = wd at *
  have e0 : decide (wd = 0) = false := by simp; omega
  have hmd : ¬ a % wd < 0 := by have := Int.emod_nonneg a (show wd ≠ 0 by omega); omega
  go_enter Tryz.func106, Tryz.ntmps106
  go_wp2_with fail
  go_ret
  exact ⟨rfl, rfl⟩
theorem panPut_zero (p : Pan) (c : Idt) : panPut p c 0 = p := by unfold panPut; rw [if_pos rfl]
theorem panPut_old {p : Pan} {c : Idt} {n : Int} (h : n ≠ 0) (ho : sumC p.sums c ≠ 0) : panPut p c n = { p with sums := putM (fun a b : Idt => a.1 == b.1 && a.2 == b.2) p.sums c (sumC p.sums c + n) } := by unfold panPut; rw [if_neg h, if_neg ho]
theorem panPut_new {p : Pan} {c : Idt} {n : Int} (h : n ≠ 0) (ho : sumC p.sums c = 0) : panPut p c n = { p with sums := putM (fun a b : Idt => a.1 == b.1 && a.2 == b.2) p.sums c n, rows := putM (fun a b : ByteArray => a == b) p.rows c.1 (rowK p.rows c.1 ++ [c.2]) } := by unfold panPut; rw [if_neg h, if_pos ho, ho, Int.zero_add]
set_option maxRecDepth 100000 in
set_option maxHeartbeats 4000000 in
theorem pan_put (b : Nat) (fp : List Nat) (p : Pan) (key : ByteArray) (pn n : Int) (w : World) (h : PanAt w b fp p) (hs0 : 0 ≤ sumC p.sums (key, pn)) (hs1 : sumC p.sums (key, pn) ≤ 1099511627776) (hn0 : 0 ≤ n) (hn1 : n ≤ 1099511627776) (hrl : (rowK p.rows key).length ≤ 1048576) :
    Calls Tryz.prog 105 #[.pointer (some ⟨b, 0, none⟩), .agg #[.string key, .int .i64 pn], .int .i64 n] w fun r w' => r = .returned (.tuple #[]) ∧ ∃ fp', PanAt w' b fp' (panPut p (key, pn) n) ∧ Turned fp fp' w w' := by
  by_cases h0 : n = 0
  · subst h0
    have Hd := Lib.hid (panPut_zero p (key, pn))
    have Hh := Lib.hid h
    clear h hs0 hs1
    go_enter Tryz.func105, Tryz.ntmps105
    go_wp2_with fail
    exact ⟨rfl, .tuple #[], by simp [results, Tryz.results105], rfl, fp, by rw [Hd.out]; exact Hh.out.ext ((Keeps.refl _ _).alloc _), Turned.of_ext ((Keeps.refl _ _).alloc _)⟩
  · obtain ⟨⟨ms, mr⟩, f, hb, hr, hfp, hnd⟩ := h
    subst hfp
    obtain ⟨f1, f2, hr1, hr2, hff, hndf⟩ := hr
    subst hff
    obtain ⟨hms, hf1⟩ := hr1
    subst hf1
    have hbf := (List.nodup_cons.1 hnd).1
    have hn9 : decide (n = 0) = false := by simpa using h0
    obtain ⟨W, hW⟩ : ∃ W, W = w.alloc (.cells #[.string key, .int .i64 pn] 173) := ⟨_, rfl⟩
    obtain ⟨gc, hgc⟩ : ∃ gc, gc = w.heap.size := ⟨_, rfl⟩
    have HxW := Lib.hid (show Ext w W by rw [hW]; exact (Keeps.refl _ _).alloc _)
    have hgb : W.heap[gc]? = some (.cells #[.string key, .int .i64 pn] 173) := by rw [hW, hgc]; exact blk_new _ _
    have hbW := HxW.out.blk hb
    have hmsW := hms.ext HxW.out
    obtain ⟨z, hz⟩ : ∃ z, z = sumC p.sums (key, pn) := ⟨_, rfl⟩
    rw [← hz] at hs0 hs1
    have Lz := Lib.hid (fun (y : XW W) => show (Instr.lookup 143 (.map (some ms)) (.agg #[.string key, .int .i64 pn]) false).run Tryz.prog y.w = .ok (.int .i64 z) y.w by rw [hz]; exact (hmsW.ext y.h).look1 (z := 0) Tryz.underlying143 (zero_i64 y.w) (key, pn))
    have q2 : W.cell? ⟨b, 2, none⟩ = some (.map (some ms)) := blk_cell hbW 2 rfl
    have q3 : W.cell? ⟨b, 3, none⟩ = some (.map (some mr)) := blk_cell hbW 3 rfl
    have c0 : W.cell? ⟨gc, 0, none⟩ = some (.string key) := blk_cell hgb 0 rfl
    have c1 : W.cell? ⟨gc, 1, none⟩ = some (.int .i64 pn) := blk_cell hgb 1 rfl
    have hbl : b < W.heap.size := (Array.getElem?_eq_some_iff.1 hbW).1
    have hcl : gc < W.heap.size := (Array.getElem?_eq_some_iff.1 hgb).1
    go_enter Tryz.func105, Tryz.ntmps105
    go_upto_region 2 with fail
    rw [← hW, ← hgc]
    have Hgcw := Lib.hid hgc
    have Hz := Lib.hid hz
    clear hW hgc hz
    refine wp_region_ext W (Keeps.refl _ _) (by kernel_rfl) (by kernel_rfl) ?_
    have hcell := fun (y : XW W) => y.cell
    have kz := Lz.out
    repeat (go_big_quiet_step (fail))
    refine wpQuiet_nil ?_
    rintro _ ⟨y, rfl⟩
    clear kz hcell
    obtain ⟨Y, hY⟩ : ∃ Y, Y = y.w := ⟨_, rfl⟩
    have HxY := Lib.hid (show Ext W Y by rw [hY]; exact y.h)
    rw [← hY]
    clear hY y Lz q2 q3 c0 c1
    have hbY := HxY.out.blk hbW
    have hgY := HxY.out.blk hgb
    have q2 : Y.cell? ⟨b, 2, none⟩ = some (.map (some ms)) := blk_cell hbY 2 rfl
    have q3 : Y.cell? ⟨b, 3, none⟩ = some (.map (some mr)) := blk_cell hbY 3 rfl
    have c0 : Y.cell? ⟨gc, 0, none⟩ = some (.string key) := blk_cell hgY 0 rfl
    have c1 : Y.cell? ⟨gc, 1, none⟩ = some (.int .i64 pn) := blk_cell hgY 1 rfl
    have hx9 := HxW.out.trans HxY.out
    have hmsY := hms.ext hx9
    have hr2Y := Ob.ext (O := mapOb (strK (P := Tryz.prog) (kt := 9) Tryz.underlying9) (fun v : Value => v) (rowOb intR 3)) hr2 hx9
    have hgcw : w.heap.size ≤ gc := by rw [Hgcw.out]; exact Nat.le_refl _
    have HbY := Lib.hid hbY
    have HgY := Lib.hid hgY
    have hgf : gc ∉ [ms] ++ f2 := fun hm => by
      rcases List.mem_append.1 hm with hm | hm
      · simp at hm; have := hms.lt; omega
      · have := (mapOb (strK (P := Tryz.prog) (kt := 9) Tryz.underlying9) (fun v : Value => v) (rowOb intR 3)).lt hr2 _ hm; omega
    have hbf' : b ∉ [ms] ++ f2 := hbf
    have hms2 : ms ∉ f2 := fun hm => (List.nodup_append.1 hndf).2.2 ms (by simp) ms hm rfl
    clear hbY hgY hbl hcl
    have hbl : b < Y.heap.size := (Array.getElem?_eq_some_iff.1 HbY.out).1
    have hcl : gc < Y.heap.size := (Array.getElem?_eq_some_iff.1 HgY.out).1
    by_cases hz0 : z = 0
    · subst hz0
      obtain ⟨v, fs, hrow, hvf, hmv, hlk, hput⟩ := rows_focus (K := (strK (P := Tryz.prog) (kt := 9) Tryz.underlying9)) hr2Y key
      obtain ⟨l, hl⟩ : ∃ l, l = rowK p.rows key := ⟨_, rfl⟩
      have hrow' : RowAt intR 3 Y v fs l := by rw [hl]; exact hrow
      rw [← hl] at hrl
      have Hl := Lib.hid hl
      obtain ⟨i0, hi0, hy0, hy1, hy2⟩ := info_of info_int
      have L1 : (Instr.lookup 144 (.map (some mr)) (.string key) false).run Tryz.prog Y.drew = .ok v Y.drew := hlk Tryz.underlying144 (zero_si _) ((Keeps.refl _ _).drew)
      have L2 : (Instr.lookup 144 (.map (some mr)) (.string key) false).run Tryz.prog (Y.drew.alloc (.cells #[.int .i64 pn] 3)) = .ok v (Y.drew.alloc (.cells #[.int .i64 pn] 3)) := hlk Tryz.underlying144 (zero_si _) ((Keeps.refl _ _).drew.alloc _)
      have L2' : (Instr.lookup 144 (.map (some mr)) (.string key) false).run Tryz.prog (Y.alloc (.cells #[.int .i64 pn] 3)).drew = .ok v (Y.alloc (.cells #[.int .i64 pn] 3)).drew := L2
      have HS := Lib.hid (fun (w' : World) (hk : Keeps (fun g => g = b ∨ g = gc ∨ g = ms) Y w') => show w'.cell? ⟨b, 3, none⟩ = some (.map (some mr)) ∧ w'.cell? ⟨gc, 0, none⟩ = some (.string key) ∧ w'.cell? ⟨gc, 1, none⟩ = some (.int .i64 pn) from ⟨blk_cell (hk.blk HbY.out (.inl rfl)) 3 rfl, blk_cell (hk.blk HgY.out (.inr (.inl rfl))) 0 rfl, blk_cell (hk.blk HgY.out (.inr (.inl rfl))) 1 rfl⟩)
      have Hfree := Lib.hid (fun (g : Nat) (hg : g = b ∨ g = gc ∨ g = ms) => show g ∉ f2 from fun hm => by rcases hg with rfl | rfl | rfl; exact hbf' (by simp [hm]); exact hgf (by simp [hm]); exact hms2 hm)
      have Hmr := Lib.hid (MapOf.root (K := (strK (P := Tryz.prog) (kt := 9) Tryz.underlying9)) hr2Y)
      clear hrow hl
      go_upto_region 4 with fail
      refine wp_region_held_drew (S := fun w' => w'.cell? ⟨b, 3, none⟩ = some (.map (some mr)) ∧ w'.cell? ⟨gc, 0, none⟩ = some (.string key) ∧ w'.cell? ⟨gc, 1, none⟩ = some (.int .i64 pn)) (by kernel_rfl) (by exact HS.out _ (by repeat (first | with_reducible exact Keeps.refl _ _ | with_reducible refine Keeps.drew ?_))) (fun hHeld => ?_)
      change wpAnyH _ _ _ _ _ _ #[false, false, false, false, false, false, false, false, false, false, false, false, false, false, false, false, false, false] _ _
      refine wpAnyH_take (i := 0) (oi := { dst := some 17, op := Go.Op.move (Go.Operand.tmp 0), type := 57, pos := "pane.go:50", after := #[], guard := none }) (v := ?_) rfl (by kernel_rfl) (by kernel_rfl) (by kernel_rfl) (fun _ _ _ h => h) (Or.inl ⟨by rfl, ?_⟩) hHeld ?_
      rotate_left
      · intro w hSw
        (try dsimp only at hSw)
        go_simp
        all_goals (with_reducible rfl)
      try simp only [Act.put, List.setIfInBounds_toArray, List.set_cons_zero, List.set_cons_succ]
      refine wpAnyH_take (i := 1) (oi := { dst := some 18, op := Go.Op.nilCheck (Go.Operand.tmp 17), type := 0, pos := "pane.go:50", after := #[{ on := 0, ground := Go.Ground.data }], guard := none }) (v := ?_) rfl (by kernel_rfl) (by kernel_rfl) (by kernel_rfl) (fun _ _ _ h => h) (Or.inl ⟨by rfl, ?_⟩) hHeld ?_
      rotate_left
      · intro w hSw
        (try dsimp only at hSw)
        go_simp
        all_goals (with_reducible rfl)
      try simp only [Act.put, List.setIfInBounds_toArray, List.set_cons_zero, List.set_cons_succ]
      refine wpAnyH_take (i := 2) (oi := { dst := some 19, op := Go.Op.fieldAddr 146 (Go.Operand.tmp 18) 3, type := 0, pos := "pane.go:50", after := #[{ on := 1, ground := Go.Ground.data }], guard := none }) (v := ?_) rfl (by kernel_rfl) (by kernel_rfl) (by kernel_rfl) (fun _ _ _ h => h) (Or.inl ⟨by rfl, ?_⟩) hHeld ?_
      rotate_left
      · intro w hSw
        (try dsimp only at hSw)
        go_simp
        all_goals (with_reducible rfl)
      try simp only [Act.put, List.setIfInBounds_toArray, List.set_cons_zero, List.set_cons_succ]
      refine wpAnyH_take (i := 3) (oi := { dst := some 20, op := Go.Op.load 144 (Go.Operand.tmp 19), type := 144, pos := "pane.go:50", after := #[{ on := 2, ground := Go.Ground.data }], guard := none }) (v := ?_) rfl (by kernel_rfl) (by kernel_rfl) (by kernel_rfl) (fun _ _ _ h => h) (Or.inl ⟨by rfl, ?_⟩) hHeld ?_
      rotate_left
      · intro w hSw
        (try dsimp only at hSw)
        go_simp
        all_goals (with_reducible rfl)
      try simp only [Act.put, List.setIfInBounds_toArray, List.set_cons_zero, List.set_cons_succ]
      refine wpAnyH_take (i := 4) (oi := { dst := some 21, op := Go.Op.fieldAddr 173 (Go.Operand.tmp 4) 0, type := 0, pos := "pane.go:50", after := #[], guard := none }) (v := ?_) rfl (by kernel_rfl) (by kernel_rfl) (by kernel_rfl) (fun _ _ _ h => h) (Or.inl ⟨by rfl, ?_⟩) hHeld ?_
      rotate_left
      · intro w hSw
        (try dsimp only at hSw)
        go_simp
        all_goals (with_reducible rfl)
      try simp only [Act.put, List.setIfInBounds_toArray, List.set_cons_zero, List.set_cons_succ]
      refine wpAnyH_take (i := 5) (oi := { dst := some 22, op := Go.Op.load 9 (Go.Operand.tmp 21), type := 9, pos := "pane.go:50", after := #[{ on := 4, ground := Go.Ground.data }], guard := none }) (v := ?_) rfl (by kernel_rfl) (by kernel_rfl) (by kernel_rfl) (fun _ _ _ h => h) (Or.inl ⟨by rfl, ?_⟩) hHeld ?_
      rotate_left
      · intro w hSw
        (try dsimp only at hSw)
        go_simp
        all_goals (with_reducible rfl)
      try simp only [Act.put, List.setIfInBounds_toArray, List.set_cons_zero, List.set_cons_succ]
      refine wpAnyH_take (i := 6) (oi := { dst := some 23, op := Go.Op.move (Go.Operand.tmp 0), type := 57, pos := "pane.go:50", after := #[], guard := none }) (v := ?_) rfl (by kernel_rfl) (by kernel_rfl) (by kernel_rfl) (fun _ _ _ h => h) (Or.inl ⟨by rfl, ?_⟩) hHeld ?_
      rotate_left
      · intro w hSw
        (try dsimp only at hSw)
        go_simp
        all_goals (with_reducible rfl)
      try simp only [Act.put, List.setIfInBounds_toArray, List.set_cons_zero, List.set_cons_succ]
      refine wpAnyH_take (i := 7) (oi := { dst := some 24, op := Go.Op.nilCheck (Go.Operand.tmp 23), type := 0, pos := "pane.go:50", after := #[{ on := 6, ground := Go.Ground.data }], guard := none }) (v := ?_) rfl (by kernel_rfl) (by kernel_rfl) (by kernel_rfl) (fun _ _ _ h => h) (Or.inl ⟨by rfl, ?_⟩) hHeld ?_
      rotate_left
      · intro w hSw
        (try dsimp only at hSw)
        go_simp
        all_goals (with_reducible rfl)
      try simp only [Act.put, List.setIfInBounds_toArray, List.set_cons_zero, List.set_cons_succ]
      refine wpAnyH_take (i := 8) (oi := { dst := some 25, op := Go.Op.fieldAddr 146 (Go.Operand.tmp 24) 3, type := 0, pos := "pane.go:50", after := #[{ on := 7, ground := Go.Ground.data }], guard := none }) (v := ?_) rfl (by kernel_rfl) (by kernel_rfl) (by kernel_rfl) (fun _ _ _ h => h) (Or.inl ⟨by rfl, ?_⟩) hHeld ?_
      rotate_left
      · intro w hSw
        (try dsimp only at hSw)
        go_simp
        all_goals (with_reducible rfl)
      try simp only [Act.put, List.setIfInBounds_toArray, List.set_cons_zero, List.set_cons_succ]
      refine wpAnyH_take (i := 9) (oi := { dst := some 26, op := Go.Op.load 144 (Go.Operand.tmp 25), type := 144, pos := "pane.go:50", after := #[{ on := 8, ground := Go.Ground.data }], guard := none }) (v := ?_) rfl (by kernel_rfl) (by kernel_rfl) (by kernel_rfl) (fun _ _ _ h => h) (Or.inl ⟨by rfl, ?_⟩) hHeld ?_
      rotate_left
      · intro w hSw
        (try dsimp only at hSw)
        go_simp
        all_goals (with_reducible rfl)
      try simp only [Act.put, List.setIfInBounds_toArray, List.set_cons_zero, List.set_cons_succ]
      refine wpAnyH_take (i := 10) (oi := { dst := some 27, op := Go.Op.fieldAddr 173 (Go.Operand.tmp 4) 0, type := 0, pos := "pane.go:50", after := #[], guard := none }) (v := ?_) rfl (by kernel_rfl) (by kernel_rfl) (by kernel_rfl) (fun _ _ _ h => h) (Or.inl ⟨by rfl, ?_⟩) hHeld ?_
      rotate_left
      · intro w hSw
        (try dsimp only at hSw)
        go_simp
        all_goals (with_reducible rfl)
      try simp only [Act.put, List.setIfInBounds_toArray, List.set_cons_zero, List.set_cons_succ]
      refine wpAnyH_take (i := 11) (oi := { dst := some 28, op := Go.Op.load 9 (Go.Operand.tmp 27), type := 9, pos := "pane.go:50", after := #[{ on := 10, ground := Go.Ground.data }], guard := none }) (v := ?_) rfl (by kernel_rfl) (by kernel_rfl) (by kernel_rfl) (fun _ _ _ h => h) (Or.inl ⟨by rfl, ?_⟩) hHeld ?_
      rotate_left
      · intro w hSw
        (try dsimp only at hSw)
        go_simp
        all_goals (with_reducible rfl)
      try simp only [Act.put, List.setIfInBounds_toArray, List.set_cons_zero, List.set_cons_succ]
      refine wpAnyH_take (i := 13) (oi := { dst := some 30, op := Go.Op.fieldAddr 173 (Go.Operand.tmp 4) 1, type := 0, pos := "pane.go:50", after := #[], guard := none }) (v := ?_) rfl (by kernel_rfl) (by kernel_rfl) (by kernel_rfl) (fun _ _ _ h => h) (Or.inl ⟨by rfl, ?_⟩) hHeld ?_
      rotate_left
      · intro w hSw
        (try dsimp only at hSw)
        go_simp
        all_goals (with_reducible rfl)
      try simp only [Act.put, List.setIfInBounds_toArray, List.set_cons_zero, List.set_cons_succ]
      refine wpAnyH_take (i := 14) (oi := { dst := some 31, op := Go.Op.load 3 (Go.Operand.tmp 30), type := 3, pos := "pane.go:50", after := #[{ on := 13, ground := Go.Ground.data }], guard := none }) (v := ?_) rfl (by kernel_rfl) (by kernel_rfl) (by kernel_rfl) (fun _ _ _ h => h) (Or.inl ⟨by rfl, ?_⟩) hHeld ?_
      rotate_left
      · intro w hSw
        (try dsimp only at hSw)
        go_simp
        all_goals (with_reducible rfl)
      try simp only [Act.put, List.setIfInBounds_toArray, List.set_cons_zero, List.set_cons_succ]
      refine meet_ (G := ?G) (fun hMeet => ?main) ?last
      case main =>
        refine wpAnyH_ready (rs := [12, 15]) (by kernel_rfl) (by simp) ?_
        refine (AllReadyH.cons (o := { dst := some 29, op := Go.Op.lookup 144 (Go.Operand.tmp 26) (Go.Operand.tmp 28) false, type := 96, pos := "pane.go:50", after := #[{ on := 9, ground := Go.Ground.data }, { on := 11, ground := Go.Ground.data }], guard := none }) rfl (fun K hK => ?_) (AllReadyH.cons (o := { dst := some 32, op := Go.Op.buildSlice 96 1 #[(0, Go.Operand.tmp 31)], type := 96, pos := "pane.go:50", after := #[{ on := 14, ground := Go.Ground.data }], guard := none }) rfl (fun K hK => ?_) AllReadyH.nil))
        · go_simp
          refine hK.out _ _ (by exact HS.out _ (by repeat (first | with_reducible exact Keeps.refl _ _ | with_reducible refine Keeps.drew ?_ | with_reducible refine Keeps.alloc ?_ _))) (fun hHeld => ?_)
          clear hK K
          try simp only [List.setIfInBounds_toArray, List.set_cons_zero, List.set_cons_succ]
          refine wpAnyH_ready (rs := [15]) (by kernel_rfl) (by simp) ?_
          refine (AllReadyH.cons (o := { dst := some 32, op := Go.Op.buildSlice 96 1 #[(0, Go.Operand.tmp 31)], type := 96, pos := "pane.go:50", after := #[{ on := 14, ground := Go.Ground.data }], guard := none }) rfl (fun K hK => ?_) AllReadyH.nil)
          · go_simp
            refine hK.out _ _ (by exact HS.out _ (by repeat (first | with_reducible exact Keeps.refl _ _ | with_reducible refine Keeps.drew ?_ | with_reducible refine Keeps.alloc ?_ _))) (fun hHeld => ?_)
            clear hK K
            try simp only [List.setIfInBounds_toArray, List.set_cons_zero, List.set_cons_succ]
            exact hMeet
        · go_simp
          refine hK.out _ _ (by exact HS.out _ (by repeat (first | with_reducible exact Keeps.refl _ _ | with_reducible refine Keeps.drew ?_ | with_reducible refine Keeps.alloc ?_ _))) (fun hHeld => ?_)
          clear hK K
          try simp only [List.setIfInBounds_toArray, List.set_cons_zero, List.set_cons_succ]
          refine wpAnyH_ready (rs := [12]) (by kernel_rfl) (by simp) ?_
          refine (AllReadyH.cons (o := { dst := some 29, op := Go.Op.lookup 144 (Go.Operand.tmp 26) (Go.Operand.tmp 28) false, type := 96, pos := "pane.go:50", after := #[{ on := 9, ground := Go.Ground.data }, { on := 11, ground := Go.Ground.data }], guard := none }) rfl (fun K hK => ?_) AllReadyH.nil)
          · go_simp
            refine hK.out _ _ (by exact HS.out _ (by repeat (first | with_reducible exact Keeps.refl _ _ | with_reducible refine Keeps.drew ?_ | with_reducible refine Keeps.alloc ?_ _))) (fun hHeld => ?_)
            clear hK K
            try simp only [List.setIfInBounds_toArray, List.set_cons_zero, List.set_cons_succ]
            exact hMeet
      case last =>
        refine wpAnyH_ready (rs := [16]) (by kernel_rfl) (by simp) ?_
        refine (AllReadyH.cons (o := { dst := some 33, op := Go.Op.call { callee := Go.Callee.builtin Go.Builtin.append, args := #[Go.Operand.tmp 29, Go.Operand.tmp 32], argTypes := #[96, 96] }, type := 96, pos := "pane.go:50", after := #[{ on := 12, ground := Go.Ground.data }, { on := 15, ground := Go.Ground.data }], guard := none }) rfl (fun K hK => ?_) AllReadyH.nil)
        refine step_append_Own (ok := fun g => g ∈ fs) (R := intR) _ (by rfl) (.tmp 29) (.tmp 32) 96 (by rfl) 3 i0 _ 8 0 Tryz.underlying96 hi0 hy0 hy1 hy2 rfl (by decide) (by rfl) (hrow'.own.ext (by repeat (first | with_reducible exact Keeps.refl _ _ | with_reducible refine Keeps.drew ?_ | with_reducible refine Keeps.alloc ?_ _))) _ 1 1 [pn] (by rfl) (Srcs.one_new rfl (blk_new _ _) rfl) (by omega) (by decide) (Nat.zero_le _) ?_; intro A5 c5 w5 hown5 hg5 hat5; obtain ⟨hrow5, ht5⟩ := RowAt.app hrow' (by repeat (first | with_reducible exact Keeps.refl _ _ | with_reducible refine Keeps.drew ?_ | with_reducible refine Keeps.alloc ?_ _)) (hown5.mono (ok' := fun g => g ∈ fs ++ []) (fun k _ h => by simpa using h)) hg5 hat5 (by simp) List.nodup_nil; obtain ⟨W6, f6, P6, hmo6, ht6, hk9⟩ := hput Tryz.underlying144 w5 _ _ _ hrow5 ht5; have P6' : (Instr.mapUpdate 144 (.map (some mr)) (.string key) (.slice A5 (l.length + 1) c5)).run Tryz.prog w5 = .ok () W6 := P6; have hk5 : Keeps (fun g => g = b ∨ g = gc ∨ g = ms) Y w5 := ht5.keeps.mono (fun g _ hg hm => Hfree.out g hg (hvf g hm)); have hk6 : Keeps (fun g => g = b ∨ g = gc ∨ g = ms) Y W6 := hk5.then_ hk9 (fun g _ hg e => Hfree.out g hg (by rw [e]; exact Hmr.out))
        refine hK.out _ _ (by exact HS.out _ (by first | exact hk5 | exact hk6)) (fun hHeld => ?_)
        clear hK K
        try simp only [Act.put, List.setIfInBounds_toArray, List.set_cons_zero, List.set_cons_succ]
        refine wpAnyH_ready (rs := [17]) (by kernel_rfl) (by simp) ?_
        refine (AllReadyH.cons (o := { dst := none, op := Go.Op.mapUpdate 144 (Go.Operand.tmp 20) (Go.Operand.tmp 22) (Go.Operand.tmp 33), type := 0, pos := "pane.go:50", after := #[{ on := 3, ground := Go.Ground.data }, { on := 5, ground := Go.Ground.data }, { on := 16, ground := Go.Ground.data }, { on := 16, ground := Go.Ground.chain }, { on := 0, ground := Go.Ground.phase }, { on := 1, ground := Go.Ground.phase }, { on := 2, ground := Go.Ground.phase }, { on := 3, ground := Go.Ground.phase }, { on := 4, ground := Go.Ground.phase }, { on := 5, ground := Go.Ground.phase }, { on := 6, ground := Go.Ground.phase }, { on := 7, ground := Go.Ground.phase }, { on := 8, ground := Go.Ground.phase }, { on := 9, ground := Go.Ground.phase }, { on := 10, ground := Go.Ground.phase }, { on := 11, ground := Go.Ground.phase }, { on := 12, ground := Go.Ground.phase }, { on := 13, ground := Go.Ground.phase }, { on := 14, ground := Go.Ground.phase }, { on := 15, ground := Go.Ground.phase }, { on := 16, ground := Go.Ground.phase }], guard := none }) rfl (fun K hK => ?_) AllReadyH.nil)
        go_simp
        refine hK.out _ _ (by exact HS.out _ (by first | exact hk5 | exact hk6)) (fun hHeld => ?_)
        clear hK K
        try simp only [List.setIfInBounds_toArray, List.set_cons_zero, List.set_cons_succ]
        refine wpAnyH_done (by kernel_rfl) ?_ _
        have hm6 : Mp (idK cellT) i64V W6.drew ms p.sums := (hmsY.keep hk6 (.inr (.inr rfl))).ext ((Keeps.refl _ _).drew)
        obtain ⟨W7, P7, hm7, hk7, _⟩ := hm6.put Tryz.underlying143 (key, pn) n
        have P7' : (Instr.mapUpdate 143 (.map (some ms)) (.agg #[.string key, .int .i64 pn]) (.int .i64 (IntKind.i64.wrap n))).run Tryz.prog W6.drew = .ok () W7 := by rw [show IntKind.i64.wrap n = n from IntWalk.i64_in _ (by omega)]; exact P7
        have hk8 : Keeps (fun g => g ≠ ms) W6 W7 := ⟨hk7.os, hk7.tape, hk7.output, hk7.size, hk7.block⟩
        have ht7 : Turned [ms] [ms] W6 W7 := ⟨hk8.mono (fun g _ hg e => hg (by simp [e])), fun g hg => .inl hg⟩
        obtain ⟨hpa6, htp6⟩ := PairAt.snd (O := mpOb (idK cellT) i64V) (O' := mapOb (strK (P := Tryz.prog) (kt := 9) Tryz.underlying9) (fun v : Value => v) (rowOb intR 3)) (x := ms) (u := p.sums) (f := [ms]) ⟨hms, rfl⟩ hndf hmo6 ((Turned.of_ext hx9).trans ht6)
        obtain ⟨hpa7, htp7⟩ := PairAt.fst (O := mpOb (idK cellT) i64V) (O' := mapOb (strK (P := Tryz.prog) (kt := 9) Tryz.underlying9) (fun v : Value => v) (rowOb intR 3)) (x' := ms) (f := [ms]) (u' := putM (fun a b : Idt => a.1 == b.1 && a.2 == b.2) p.sums (key, pn) n) (f1 := [ms]) hmo6 ((pairOb (mpOb (idK cellT) i64V) (mapOb (strK (P := Tryz.prog) (kt := 9) Tryz.underlying9) (fun v : Value => v) (rowOb intR 3))).nd hpa6) ⟨hm7, rfl⟩ ht7
        have Hfin := Lib.hid (show PanAt W7 b (b :: ([ms] ++ f6)) (panPut p (key, pn) n) ∧ Turned (b :: ([ms] ++ f2)) (b :: ([ms] ++ f6)) w W7 from BoxAt.turn hb hbf (by rw [panPut_new h0 Hz.out.symm, ← Hl.out]; exact hpa7) (htp6.trans htp7) (by rw [panPut_new h0 Hz.out.symm]; rfl))
        have HS5 := Lib.hid (fun (w' : World) (hk : Keeps (fun g => g = b ∨ g = gc) W6 w') => show w'.cell? ⟨b, 2, none⟩ = some (.map (some ms)) ∧ w'.cell? ⟨gc, 0, none⟩ = some (.string key) ∧ w'.cell? ⟨gc, 1, none⟩ = some (.int .i64 pn) from ⟨blk_cell (hk.blk (hk6.blk HbY.out (.inl rfl)) (.inl rfl)) 2 rfl, blk_cell (hk.blk (hk6.blk HgY.out (.inr (.inl rfl))) (.inr rfl)) 0 rfl, blk_cell (hk.blk (hk6.blk HgY.out (.inr (.inl rfl))) (.inr rfl)) 1 rfl⟩)
        have Hk8 := Lib.hid (show Keeps (fun g => g = b ∨ g = gc) W6 W7 from hk8.mono (fun g _ hg e => by subst e; rcases hg with rfl | rfl; exact hbf' (by simp); exact hgf (by simp)))
        have hbl6 : b < W6.heap.size := Nat.lt_of_lt_of_le hbl hk6.size
        have hcl6 : gc < W6.heap.size := Nat.lt_of_lt_of_le hcl hk6.size
        clear hHeld hpa6 htp6 hpa7 htp7 hm7 hk7 P7 hk8 ht7 hm6 hown5 hg5 hat5 hrow5 ht5 P6 P6' hmo6 ht6 hk9 hk5 L1 L2 L2' hlk hput q2 q3 c0 c1
        go_upto_region 5 with fail
        refine wp_region_held_drew (S := fun w' => w'.cell? ⟨b, 2, none⟩ = some (.map (some ms)) ∧ w'.cell? ⟨gc, 0, none⟩ = some (.string key) ∧ w'.cell? ⟨gc, 1, none⟩ = some (.int .i64 pn)) (by kernel_rfl) (by exact HS5.out _ (by repeat (first | with_reducible exact Keeps.refl _ _ | with_reducible refine Keeps.drew ?_))) (fun hHeld => ?_)
        change wpAnyH _ _ _ _ _ _ #[false, false, false, false, false, false, false, false, false] _ _
        refine wpAnyH_take (i := 0) (oi := { dst := some 34, op := Go.Op.move (Go.Operand.tmp 0), type := 57, pos := "pane.go:52", after := #[], guard := none }) (v := ?_) rfl (by kernel_rfl) (by kernel_rfl) (by kernel_rfl) (fun _ _ _ h => h) (Or.inl ⟨by rfl, ?_⟩) hHeld ?_
        rotate_left
        · intro w hSw
          (try dsimp only at hSw)
          go_simp
          all_goals (with_reducible rfl)
        try simp only [Act.put, List.setIfInBounds_toArray, List.set_cons_zero, List.set_cons_succ]
        refine wpAnyH_take (i := 1) (oi := { dst := some 35, op := Go.Op.nilCheck (Go.Operand.tmp 34), type := 0, pos := "pane.go:52", after := #[{ on := 0, ground := Go.Ground.data }], guard := none }) (v := ?_) rfl (by kernel_rfl) (by kernel_rfl) (by kernel_rfl) (fun _ _ _ h => h) (Or.inl ⟨by rfl, ?_⟩) hHeld ?_
        rotate_left
        · intro w hSw
          (try dsimp only at hSw)
          go_simp
          all_goals (with_reducible rfl)
        try simp only [Act.put, List.setIfInBounds_toArray, List.set_cons_zero, List.set_cons_succ]
        refine wpAnyH_take (i := 2) (oi := { dst := some 36, op := Go.Op.fieldAddr 146 (Go.Operand.tmp 35) 2, type := 0, pos := "pane.go:52", after := #[{ on := 1, ground := Go.Ground.data }], guard := none }) (v := ?_) rfl (by kernel_rfl) (by kernel_rfl) (by kernel_rfl) (fun _ _ _ h => h) (Or.inl ⟨by rfl, ?_⟩) hHeld ?_
        rotate_left
        · intro w hSw
          (try dsimp only at hSw)
          go_simp
          all_goals (with_reducible rfl)
        try simp only [Act.put, List.setIfInBounds_toArray, List.set_cons_zero, List.set_cons_succ]
        refine wpAnyH_take (i := 3) (oi := { dst := some 37, op := Go.Op.load 143 (Go.Operand.tmp 36), type := 143, pos := "pane.go:52", after := #[{ on := 2, ground := Go.Ground.data }], guard := none }) (v := ?_) rfl (by kernel_rfl) (by kernel_rfl) (by kernel_rfl) (fun _ _ _ h => h) (Or.inl ⟨by rfl, ?_⟩) hHeld ?_
        rotate_left
        · intro w hSw
          (try dsimp only at hSw)
          go_simp
          all_goals (with_reducible rfl)
        try simp only [Act.put, List.setIfInBounds_toArray, List.set_cons_zero, List.set_cons_succ]
        refine wpAnyH_take (i := 4) (oi := { dst := some 38, op := Go.Op.load 173 (Go.Operand.tmp 4), type := 173, pos := "pane.go:52", after := #[], guard := none }) (v := ?_) rfl (by kernel_rfl) (by kernel_rfl) (by kernel_rfl) (fun _ _ _ h => h) (Or.inl ⟨by rfl, ?_⟩) hHeld ?_
        rotate_left
        · intro w hSw
          (try dsimp only at hSw)
          go_simp
          all_goals (with_reducible rfl)
        try simp only [Act.put, List.setIfInBounds_toArray, List.set_cons_zero, List.set_cons_succ]
        refine wpAnyH_take (i := 5) (oi := { dst := some 39, op := Go.Op.move (Go.Operand.tmp 6), type := 2, pos := "pane.go:52", after := #[], guard := none }) (v := ?_) rfl (by kernel_rfl) (by kernel_rfl) (by kernel_rfl) (fun _ _ _ h => h) (Or.inl ⟨by rfl, ?_⟩) hHeld ?_
        rotate_left
        · intro w hSw
          (try dsimp only at hSw)
          go_simp
          all_goals (with_reducible rfl)
        try simp only [Act.put, List.setIfInBounds_toArray, List.set_cons_zero, List.set_cons_succ]
        refine wpAnyH_take (i := 6) (oi := { dst := some 40, op := Go.Op.move (Go.Operand.tmp 2), type := 2, pos := "pane.go:52", after := #[], guard := none }) (v := ?_) rfl (by kernel_rfl) (by kernel_rfl) (by kernel_rfl) (fun _ _ _ h => h) (Or.inl ⟨by rfl, ?_⟩) hHeld ?_
        rotate_left
        · intro w hSw
          (try dsimp only at hSw)
          go_simp
          all_goals (with_reducible rfl)
        try simp only [Act.put, List.setIfInBounds_toArray, List.set_cons_zero, List.set_cons_succ]
        refine wpAnyH_take (i := 7) (oi := { dst := some 41, op := Go.Op.binOp Go.BinOp.add 2 (Go.Operand.tmp 39) (Go.Operand.tmp 40) 2, type := 2, pos := "pane.go:52", after := #[{ on := 5, ground := Go.Ground.data }, { on := 6, ground := Go.Ground.data }], guard := none }) (v := ?_) rfl (by kernel_rfl) (by kernel_rfl) (by kernel_rfl) (fun _ _ _ h => h) (Or.inl ⟨by rfl, ?_⟩) hHeld ?_
        rotate_left
        · intro w hSw
          (try dsimp only at hSw)
          go_simp
          all_goals (with_reducible rfl)
        try simp only [Act.put, List.setIfInBounds_toArray, List.set_cons_zero, List.set_cons_succ]
        refine wpAnyH_ready (rs := [8]) (by kernel_rfl) (by simp) ?_
        refine (AllReadyH.cons (o := { dst := none, op := Go.Op.mapUpdate 143 (Go.Operand.tmp 37) (Go.Operand.tmp 38) (Go.Operand.tmp 41), type := 0, pos := "pane.go:52", after := #[{ on := 3, ground := Go.Ground.data }, { on := 4, ground := Go.Ground.data }, { on := 7, ground := Go.Ground.data }, { on := 0, ground := Go.Ground.phase }, { on := 1, ground := Go.Ground.phase }, { on := 2, ground := Go.Ground.phase }, { on := 3, ground := Go.Ground.phase }, { on := 4, ground := Go.Ground.phase }, { on := 5, ground := Go.Ground.phase }, { on := 6, ground := Go.Ground.phase }, { on := 7, ground := Go.Ground.phase }], guard := none }) rfl (fun K hK => ?_) AllReadyH.nil)
        go_simp
        refine hK.out _ _ (by exact HS5.out _ (by repeat (first | with_reducible exact Keeps.refl _ _ | with_reducible exact Hk8.out | with_reducible refine Keeps.drew ?_))) (fun hHeld => ?_)
        clear hK K
        try simp only [List.setIfInBounds_toArray, List.set_cons_zero, List.set_cons_succ]
        refine wpAnyH_done (by kernel_rfl) ?_ _
        go_wp2_with fail
        exact ⟨rfl, .tuple #[], by simp [results, Tryz.results105], rfl, _, Hfin.out⟩
    · have hz9 : decide (z = 0) = false := by simpa using hz0
      obtain ⟨W5, P2, hm5, hk5, _⟩ := (hmsY.ext (w' := Y.drew) ((Keeps.refl _ _).drew)).put Tryz.underlying143 (key, pn) (z + n)
      have P2' : (Instr.mapUpdate 143 (.map (some ms)) (.agg #[.string key, .int .i64 pn]) (.int .i64 (IntKind.i64.wrap (z + n)))).run Tryz.prog Y.drew = .ok () W5 := by rw [show IntKind.i64.wrap (z + n) = z + n from IntWalk.i64_in _ (by omega)]; exact P2
      have hk6 : Keeps (fun g => g ≠ ms) Y W5 := ⟨hk5.os, hk5.tape, hk5.output, hk5.size, hk5.block⟩
      have ht5 : Turned [ms] [ms] w W5 := ⟨Keeps.then_ (Ext.keeps hx9 _) hk6 (fun g _ hg e => hg (by simp [e])), fun g hg => .inl hg⟩
      obtain ⟨hpa, htp⟩ := PairAt.fst (O := mpOb (idK cellT) i64V) (O' := mapOb (strK (P := Tryz.prog) (kt := 9) Tryz.underlying9) (fun v : Value => v) (rowOb intR 3)) hr2 hndf (x' := ms) (u' := putM (fun a b : Idt => a.1 == b.1 && a.2 == b.2) p.sums (key, pn) (z + n)) (f1 := [ms]) ⟨hm5, rfl⟩ ht5
      have Hfin := Lib.hid (show PanAt W5 b (b :: ([ms] ++ f2)) (panPut p (key, pn) n) ∧ Turned (b :: ([ms] ++ f2)) (b :: ([ms] ++ f2)) w W5 from BoxAt.turn hb hbf (by rw [panPut_old h0 (by rw [← Hz.out]; exact hz0), ← Hz.out]; exact hpa) htp (by rw [panPut_old h0 (by rw [← Hz.out]; exact hz0)]; rfl))
      have HS := Lib.hid (fun (w' : World) (hk : Keeps (fun g => g = b ∨ g = gc) Y w') => show w'.cell? ⟨b, 2, none⟩ = some (.map (some ms)) ∧ w'.cell? ⟨gc, 0, none⟩ = some (.string key) ∧ w'.cell? ⟨gc, 1, none⟩ = some (.int .i64 pn) from ⟨blk_cell (hk.blk HbY.out (.inl rfl)) 2 rfl, blk_cell (hk.blk HgY.out (.inr rfl)) 0 rfl, blk_cell (hk.blk HgY.out (.inr rfl)) 1 rfl⟩)
      have Hk6 := Lib.hid (show Keeps (fun g => g = b ∨ g = gc) Y W5 from hk6.mono (fun g _ hg e => by subst e; rcases hg with rfl | rfl; exact hbf' (by simp); exact hgf (by simp)))
      clear P2 hm5 hk5 hk6 ht5 hpa htp hmsY hr2Y hms hr2 hb hbW hgb hmsW hx9
      go_upto_region 5 with fail
      refine wp_region_held_drew (S := fun w' => w'.cell? ⟨b, 2, none⟩ = some (.map (some ms)) ∧ w'.cell? ⟨gc, 0, none⟩ = some (.string key) ∧ w'.cell? ⟨gc, 1, none⟩ = some (.int .i64 pn)) (by kernel_rfl) (by exact HS.out _ (by repeat (first | with_reducible exact Keeps.refl _ _ | with_reducible refine Keeps.drew ?_))) (fun hHeld => ?_)
      change wpAnyH _ _ _ _ _ _ #[false, false, false, false, false, false, false, false, false] _ _
      refine wpAnyH_take (i := 0) (oi := { dst := some 34, op := Go.Op.move (Go.Operand.tmp 0), type := 57, pos := "pane.go:52", after := #[], guard := none }) (v := ?_) rfl (by kernel_rfl) (by kernel_rfl) (by kernel_rfl) (fun _ _ _ h => h) (Or.inl ⟨by rfl, ?_⟩) hHeld ?_
      rotate_left
      · intro w hSw
        (try dsimp only at hSw)
        go_simp
        all_goals (with_reducible rfl)
      try simp only [Act.put, List.setIfInBounds_toArray, List.set_cons_zero, List.set_cons_succ]
      refine wpAnyH_take (i := 1) (oi := { dst := some 35, op := Go.Op.nilCheck (Go.Operand.tmp 34), type := 0, pos := "pane.go:52", after := #[{ on := 0, ground := Go.Ground.data }], guard := none }) (v := ?_) rfl (by kernel_rfl) (by kernel_rfl) (by kernel_rfl) (fun _ _ _ h => h) (Or.inl ⟨by rfl, ?_⟩) hHeld ?_
      rotate_left
      · intro w hSw
        (try dsimp only at hSw)
        go_simp
        all_goals (with_reducible rfl)
      try simp only [Act.put, List.setIfInBounds_toArray, List.set_cons_zero, List.set_cons_succ]
      refine wpAnyH_take (i := 2) (oi := { dst := some 36, op := Go.Op.fieldAddr 146 (Go.Operand.tmp 35) 2, type := 0, pos := "pane.go:52", after := #[{ on := 1, ground := Go.Ground.data }], guard := none }) (v := ?_) rfl (by kernel_rfl) (by kernel_rfl) (by kernel_rfl) (fun _ _ _ h => h) (Or.inl ⟨by rfl, ?_⟩) hHeld ?_
      rotate_left
      · intro w hSw
        (try dsimp only at hSw)
        go_simp
        all_goals (with_reducible rfl)
      try simp only [Act.put, List.setIfInBounds_toArray, List.set_cons_zero, List.set_cons_succ]
      refine wpAnyH_take (i := 3) (oi := { dst := some 37, op := Go.Op.load 143 (Go.Operand.tmp 36), type := 143, pos := "pane.go:52", after := #[{ on := 2, ground := Go.Ground.data }], guard := none }) (v := ?_) rfl (by kernel_rfl) (by kernel_rfl) (by kernel_rfl) (fun _ _ _ h => h) (Or.inl ⟨by rfl, ?_⟩) hHeld ?_
      rotate_left
      · intro w hSw
        (try dsimp only at hSw)
        go_simp
        all_goals (with_reducible rfl)
      try simp only [Act.put, List.setIfInBounds_toArray, List.set_cons_zero, List.set_cons_succ]
      refine wpAnyH_take (i := 4) (oi := { dst := some 38, op := Go.Op.load 173 (Go.Operand.tmp 4), type := 173, pos := "pane.go:52", after := #[], guard := none }) (v := ?_) rfl (by kernel_rfl) (by kernel_rfl) (by kernel_rfl) (fun _ _ _ h => h) (Or.inl ⟨by rfl, ?_⟩) hHeld ?_
      rotate_left
      · intro w hSw
        (try dsimp only at hSw)
        go_simp
        all_goals (with_reducible rfl)
      try simp only [Act.put, List.setIfInBounds_toArray, List.set_cons_zero, List.set_cons_succ]
      refine wpAnyH_take (i := 5) (oi := { dst := some 39, op := Go.Op.move (Go.Operand.tmp 6), type := 2, pos := "pane.go:52", after := #[], guard := none }) (v := ?_) rfl (by kernel_rfl) (by kernel_rfl) (by kernel_rfl) (fun _ _ _ h => h) (Or.inl ⟨by rfl, ?_⟩) hHeld ?_
      rotate_left
      · intro w hSw
        (try dsimp only at hSw)
        go_simp
        all_goals (with_reducible rfl)
      try simp only [Act.put, List.setIfInBounds_toArray, List.set_cons_zero, List.set_cons_succ]
      refine wpAnyH_take (i := 6) (oi := { dst := some 40, op := Go.Op.move (Go.Operand.tmp 2), type := 2, pos := "pane.go:52", after := #[], guard := none }) (v := ?_) rfl (by kernel_rfl) (by kernel_rfl) (by kernel_rfl) (fun _ _ _ h => h) (Or.inl ⟨by rfl, ?_⟩) hHeld ?_
      rotate_left
      · intro w hSw
        (try dsimp only at hSw)
        go_simp
        all_goals (with_reducible rfl)
      try simp only [Act.put, List.setIfInBounds_toArray, List.set_cons_zero, List.set_cons_succ]
      refine wpAnyH_take (i := 7) (oi := { dst := some 41, op := Go.Op.binOp Go.BinOp.add 2 (Go.Operand.tmp 39) (Go.Operand.tmp 40) 2, type := 2, pos := "pane.go:52", after := #[{ on := 5, ground := Go.Ground.data }, { on := 6, ground := Go.Ground.data }], guard := none }) (v := ?_) rfl (by kernel_rfl) (by kernel_rfl) (by kernel_rfl) (fun _ _ _ h => h) (Or.inl ⟨by rfl, ?_⟩) hHeld ?_
      rotate_left
      · intro w hSw
        (try dsimp only at hSw)
        go_simp
        all_goals (with_reducible rfl)
      try simp only [Act.put, List.setIfInBounds_toArray, List.set_cons_zero, List.set_cons_succ]
      refine wpAnyH_ready (rs := [8]) (by kernel_rfl) (by simp) ?_
      refine (AllReadyH.cons (o := { dst := none, op := Go.Op.mapUpdate 143 (Go.Operand.tmp 37) (Go.Operand.tmp 38) (Go.Operand.tmp 41), type := 0, pos := "pane.go:52", after := #[{ on := 3, ground := Go.Ground.data }, { on := 4, ground := Go.Ground.data }, { on := 7, ground := Go.Ground.data }, { on := 0, ground := Go.Ground.phase }, { on := 1, ground := Go.Ground.phase }, { on := 2, ground := Go.Ground.phase }, { on := 3, ground := Go.Ground.phase }, { on := 4, ground := Go.Ground.phase }, { on := 5, ground := Go.Ground.phase }, { on := 6, ground := Go.Ground.phase }, { on := 7, ground := Go.Ground.phase }], guard := none }) rfl (fun K hK => ?_) AllReadyH.nil)
      go_simp
      refine hK.out _ _ (by exact HS.out _ (by repeat (first | with_reducible exact Keeps.refl _ _ | with_reducible exact Hk6.out | with_reducible refine Keeps.drew ?_ | with_reducible refine Keeps.alloc ?_ _))) (fun hHeld => ?_)
      clear hK K
      try simp only [List.setIfInBounds_toArray, List.set_cons_zero, List.set_cons_succ]
      refine wpAnyH_done (by kernel_rfl) ?_ _
      go_wp2_with fail
      exact ⟨rfl, .tuple #[], by simp [results, Tryz.results105], rfl, _, Hfin.out⟩
theorem sumC_self (l : List (Idt × Int)) (k : Idt) (v : Int) : sumC (putM (fun a b : Idt => a.1 == b.1 && a.2 == b.2) l k v) k = v := congrArg (fun o => Option.getD o 0) (getM_putM_self (idK cellT) l k v)
theorem sumC_ne (l : List (Idt × Int)) {k k' : Idt} (v : Int) (h : k' ≠ k) : sumC (putM (fun a b : Idt => a.1 == b.1 && a.2 == b.2) l k v) k' = sumC l k' := congrArg (fun o => Option.getD o 0) (getM_putM_ne (idK cellT) l v h)
theorem rowK_self (l : List (ByteArray × List Int)) (k : ByteArray) (v : List Int) : rowK (putM (fun a b : ByteArray => a == b) l k v) k = v := congrArg (fun o => Option.getD o []) (getM_putM_self (strK (P := Tryz.prog) (kt := 9) Tryz.underlying9) l k v)
theorem rowK_ne (l : List (ByteArray × List Int)) {k k' : ByteArray} (v : List Int) (h : k' ≠ k) : rowK (putM (fun a b : ByteArray => a == b) l k v) k' = rowK l k' := congrArg (fun o => Option.getD o []) (getM_putM_ne (strK (P := Tryz.prog) (kt := 9) Tryz.underlying9) l v h)
structure PanOk (p : Pan) : Prop where
  w0 : 1 ≤ p.width
  w1 : p.width ≤ 1099511627776
  sums : ∀ c, 0 ≤ sumC p.sums c ∧ sumC p.sums c ≤ 1048576 * (p.added : Int)
  rows : ∀ key, (rowK p.rows key).length ≤ p.added
def panAdd (p : Pan) (key : ByteArray) (a n : Int) : Pan := panPut { p with added := p.added + 1 } (key, a / p.width) n
theorem panAdd_ok {p : Pan} (h : PanOk p) (key : ByteArray) (a : Int) {n : Int} (h0 : 0 ≤ n) (h1 : n ≤ 1048576) : PanOk (panAdd p key a n) := by
  have e1 : ((p.added + 1 : Nat) : Int) = (p.added : Int) + 1 := by omega
  unfold panAdd
  by_cases hn : n = 0
  · subst hn
    rw [panPut_zero]
    exact ⟨h.w0, h.w1, fun c => by have := h.sums c; simp only; rw [e1]; omega, fun k => Nat.le_succ_of_le (h.rows k)⟩
  have hsum : ∀ (q : Idt) (c : Idt), 0 ≤ sumC (putM (fun a b : Idt => a.1 == b.1 && a.2 == b.2) p.sums q (sumC p.sums q + n)) c ∧ sumC (putM (fun a b : Idt => a.1 == b.1 && a.2 == b.2) p.sums q (sumC p.sums q + n)) c ≤ 1048576 * ((p.added : Int) + 1) := fun q c => by
    by_cases hc : c = q
    · subst hc; rw [sumC_self]; have := h.sums c; omega
    · rw [sumC_ne _ _ hc]; have := h.sums c; omega
  by_cases ho : sumC p.sums (key, a / p.width) = 0
  · rw [panPut_new (p := { p with added := p.added + 1 }) hn ho]
    refine ⟨h.w0, h.w1, fun c => ?_, fun k => ?_⟩
    · have := hsum (key, a / p.width) c
      rw [ho, Int.zero_add] at this
      simp only; rw [e1]; exact this
    · simp only
      by_cases hk : k = key
      · subst hk; rw [rowK_self, List.length_append]; have := h.rows k; simp; omega
      · rw [rowK_ne _ _ hk]; exact Nat.le_succ_of_le (h.rows k)
  · rw [panPut_old (p := { p with added := p.added + 1 }) hn ho]
    exact ⟨h.w0, h.w1, fun c => by have := hsum (key, a / p.width) c; simp only; rw [e1]; exact this, fun k => Nat.le_succ_of_le (h.rows k)⟩
set_option maxRecDepth 100000 in
set_option maxHeartbeats 2000000 in
theorem pan_Add (b : Nat) (fp : List Nat) (p : Pan) (key : ByteArray) (a n : Int) (w : World) (h : PanAt w b fp p) (hok : PanOk p) (hk0 : 1 ≤ key.size) (hk1 : key.size ≤ 24) (ha0 : 0 ≤ a) (ha1 : a ≤ 1099511627776) (hn0 : 0 ≤ n) (hn1 : n ≤ 1048576) (had : p.added < 1048576) :
    Calls Tryz.prog 83 #[.pointer (some ⟨b, 0, none⟩), .string key, .int .i64 a, .int .i64 n] w fun r w' => r = .returned (.bool true) ∧ ∃ fp', PanAt w' b fp' (panAdd p key a n) ∧ Turned fp fp' w w' := by
  obtain ⟨hb1, ht1⟩ := BoxAt.store (a' := { p with added := p.added + 1 }) (j := 1) (u := .int .i64 ((p.added : Int) + 1)) h (fun _ => by simp [panC]) rfl
  have hs := hok.sums (key, a / p.width)
  have hr := hok.rows key
  have HP := Lib.hid (pan_put b fp { p with added := p.added + 1 } key (a / p.width) n _ hb1 hs.1 (by show sumC p.sums _ ≤ _; omega) hn0 (by omega) (by show (rowK p.rows key).length ≤ _; omega))
  have HO := Lib.hid (pan_of b fp { p with added := p.added + 1 } a _ hb1 hok.w0 hok.w1 ha0 ha1)
  have Ht1 := Lib.hid ht1
  obtain ⟨m, f, hb, hr, hfp, hnd⟩ := h
  have q1 : w.cell? ⟨b, 1, none⟩ = some (.int .i64 p.added) := blk_cell hb 1 rfl
  have f1 := blk_free hb
  have hbl : b < w.heap.size := (Array.getElem?_eq_some_iff.1 hb).1
  clear hb hr hfp hnd hb1 ht1 hs hok
  go_enter Tryz.func83, Tryz.ntmps83
  go_wp2_with (first
    | (go_at_call 106; refine HO.out.mono ?_; rintro _ _ ⟨rfl, rfl⟩)
    | (go_at_call 105; refine HP.out.mono ?_; rintro _ w2 ⟨rfl, fp2, hd2, ht2⟩; have Hd2 := Lib.hid hd2; have Ht2 := Lib.hid ht2; clear hd2 ht2))
  go_ret
  exact ⟨rfl, fp2, Hd2.out, Ht1.out.trans Ht2.out⟩
end Go.Proofs.YtpkkkhgmkndpdaaGreatDoor
namespace Go.Proofs.YtpkkkhgmkndpdaaGreatDoor
open Go Go.RowKit Go.Proofs
attribute [local go_sem ↓] Go.wp_at_zero Go.wp_at_succ
def boolV (b : Bool) : Value := .bool b
structure Ses where
  gap : Int
  added : List (ByteArray × List (Int × List (ByteArray × Bool)))
def sesC (s : Ses) (m : Nat) : Array Value := #[.int .i64 s.gap, .map (some m)]
abbrev SesAt (w : World) (b : Nat) (fp : List Nat) (s : Ses) : Prop := BoxAt 149 sesC (mapOb (strK (P := Tryz.prog) (kt := 9) Tryz.underlying9) mapH (mapOb (intK (P := Tryz.prog) (kt := 3) Tryz.underlying3) mapH (mpOb (strK (P := Tryz.prog) (kt := 9) Tryz.underlying9) boolV))) Ses.added w b fp s
def tickS (l : List (ByteArray × List (Int × List (ByteArray × Bool)))) (p : ByteArray) : List (Int × List (ByteArray × Bool)) := (getM (fun a b : ByteArray => a == b) l p).getD []
def itemS (l : List (Int × List (ByteArray × Bool))) (a : Int) : List (ByteArray × Bool) := (getM (fun a b : Int => decide (a = b)) l a).getD []
def sesAdd (s : Ses) (person : ByteArray) (a : Int) (item : ByteArray) : Ses := { s with added := putM (fun a b : ByteArray => a == b) s.added person (putM (fun a b : Int => decide (a = b)) (tickS s.added person) a (putM (fun a b : ByteArray => a == b) (itemS (tickS s.added person) a) item true)) }
theorem eq_map_nil1 (m : Option Nat) (w : World) : (binOp .eql 174 (.map m) (.map none)).run Tryz.prog w = .ok (.bool m.isNone) w := by
  simp only [binOp]
  simp [run_equal_map_nil w 174 _ _ m Tryz.underlying174]
theorem eq_map_nil2 (m : Option Nat) (w : World) : (binOp .eql 53 (.map m) (.map none)).run Tryz.prog w = .ok (.bool m.isNone) w := by
  simp only [binOp]
  simp [run_equal_map_nil w 53 _ _ m Tryz.underlying53]
theorem zero_m1 (w : World) : (zeroValue 174).run Tryz.prog w = .ok (.map none) w := by kernel_rfl
theorem zero_mb (w : World) : (zeroValue 53).run Tryz.prog w = .ok (.map none) w := by kernel_rfl
set_option maxRecDepth 100000 in
set_option maxHeartbeats 2000000 in
theorem ses_New (gap : Int) (w : World) (h0 : 0 ≤ gap) (h1 : gap ≤ 1099511627776) :
    Calls Tryz.prog 70 #[.int .i64 gap] w fun r w' => ∃ b fp, r = .returned (.pointer (some ⟨b, 0, none⟩)) ∧ SesAt w' b fp ⟨gap, []⟩ ∧ Ext w w' ∧ ∀ g ∈ fp, w.heap.size ≤ g := by
  have hmm := @run_makeMap Tryz.prog
  go_enter Tryz.func70, Tryz.ntmps70
  go_wp2_with fail
  go_ret
  exact ⟨w.heap.size + 1, [w.heap.size + 1, w.heap.size], rfl, BoxAt.new (h := w.heap.size) (f := [w.heap.size]) (blk_at _ _ (by simp)) (Ob.ext (O := (mapOb (strK (P := Tryz.prog) (kt := 9) Tryz.underlying9) mapH (mapOb (intK (P := Tryz.prog) (kt := 3) Tryz.underlying3) mapH (mpOb (strK (P := Tryz.prog) (kt := 9) Tryz.underlying9) boolV)))) (MapOf.new w) ((Keeps.refl _ _).alloc _)) (by simp), ((Keeps.refl _ _).alloc _).alloc _, by simp⟩
set_option maxRecDepth 100000 in
set_option maxHeartbeats 2000000 in
theorem ses_fits (s : ByteArray) (w : World) (h0 : 1 ≤ s.size) (h1 : s.size ≤ 24) :
    Calls Tryz.prog 107 #[.string s] w fun r w' => r = .returned (.bool true) ∧ w = w' := by
  have e1 : decide ((s.size : Int) ≤ 24) = true := by simp; omega
  go_enter Tryz.func107, Tryz.ntmps107
  go_wp2_with fail
  go_ret
  exact ⟨rfl, rfl⟩
set_option maxRecDepth 100000 in
set_option maxHeartbeats 4000000 in
theorem ses_Add (b : Nat) (fp : List Nat) (s : Ses) (person item : ByteArray) (a : Int) (w : World) (h : SesAt w b fp s) (hp0 : 1 ≤ person.size) (hp1 : person.size ≤ 24) (hi0 : 1 ≤ item.size) (hi1 : item.size ≤ 24) (ha0 : 0 ≤ a) (ha1 : a ≤ 1099511627776) :
    Calls Tryz.prog 84 #[.pointer (some ⟨b, 0, none⟩), .string person, .int .i64 a, .string item] w fun r w' => r = .returned (.bool true) ∧ ∃ fp', SesAt w' b fp' (sesAdd s person a item) ∧ Turned fp fp' w w' := by
  have H1 := Lib.hid (fun W : World => ses_fits person W hp0 hp1)
  have H2 := Lib.hid (fun W : World => ses_fits item W hi0 hi1)
  obtain ⟨m, f, hb, hr, hfp, hnd⟩ := h
  subst hfp
  have q1 : w.cell? ⟨b, 1, none⟩ = some (.map (some m)) := blk_cell hb 1 rfl
  have hmm := @run_makeMap Tryz.prog
  have hE0 := eq_map_nil1 none
  have hE1 := fun (k : Nat) => eq_map_nil1 (some k)
  have hE2 := eq_map_nil2 none
  have hE3 := fun (k : Nat) => eq_map_nil2 (some k)
  simp only [Option.isNone_none, Option.isNone_some] at hE0 hE1 hE2 hE3
  have hbf : b ∉ f := (List.nodup_cons.1 hnd).1
  have hbl : b < w.heap.size := (Array.getElem?_eq_some_iff.1 hb).1
  obtain ⟨T, hT⟩ : ∃ T, T = tickS s.added person := ⟨_, rfl⟩
  obtain ⟨I, hI⟩ : ∃ I, I = itemS T a := ⟨_, rfl⟩
  have Hdp := Lib.hid (show sesAdd s person a item = { s with added := putM (fun a b : ByteArray => a == b) s.added person (putM (fun a b : Int => decide (a = b)) T a (putM (fun a b : ByteArray => a == b) I item true)) } by unfold sesAdd; rw [← hT, ← hI])
  cases hg : getM (fun a b : ByteArray => a == b) s.added person with
  | none =>
    have hT0 : T = [] := by rw [hT]; unfold tickS; rw [hg]; rfl
    have hI0 : I = [] := by rw [hI, hT0]; rfl
    subst hT0 hI0
    have L1 : (Instr.lookup 147 (.map (some m)) (.string person) false).run Tryz.prog w = .ok (.map none) w := MapOf.look_none (K := (strK (P := Tryz.prog) (kt := 9) Tryz.underlying9)) hr hg Tryz.underlying147 (zero_m1 w) (Keeps.refl _ _) false
    obtain ⟨WW, fp1, P1, hmo1, ht1, hk1⟩ := MapOf.insert (K := (strK (P := Tryz.prog) (kt := 9) Tryz.underlying9)) hr hg Tryz.underlying147 (W := w.alloc (.map #[] 0)) (x := w.heap.size) (f := [w.heap.size]) (a := []) (MapOf.new w) ((Keeps.refl _ _).alloc _) (by simp)
    have P1' : (Instr.mapUpdate 147 (.map (some m)) (.string person) (.map (some w.heap.size))).run Tryz.prog (w.alloc (.map #[] 0)) = .ok () WW := P1
    have hb3 : WW.heap[b]? = some (.cells (sesC s m) 149) := ht1.keeps.blk hb hbf
    have q3 : WW.cell? ⟨b, 1, none⟩ = some (.map (some m)) := blk_cell hb3 1 rfl
    obtain ⟨x1, f1, hr1, _, _, hl1, hfx1, _⟩ := hmo1.focus (getM_putM_self (strK (P := Tryz.prog) (kt := 9) Tryz.underlying9) s.added person [])
    have L2 : (Instr.lookup 147 (.map (some m)) (.string person) false).run Tryz.prog WW = .ok (.map (some x1)) WW := hl1 Tryz.underlying147 (zero_m1 WW) (Keeps.refl _ _) false
    obtain ⟨T, hT⟩ : ∃ T : List (Int × List (ByteArray × Bool)), T = [] := ⟨_, rfl⟩
    rw [← hT] at hr1
    have hg1 : getM (fun a b : Int => decide (a = b)) T a = none := by rw [hT]; rfl
    have L3 : (Instr.lookup 174 (.map (some x1)) (.int .i64 a) false).run Tryz.prog WW = .ok (.map none) WW := MapOf.look_none (K := (intK (P := Tryz.prog) (kt := 3) Tryz.underlying3)) hr1 hg1 Tryz.underlying174 (zero_mb WW) (Keeps.refl _ _) false; obtain ⟨W2, f2, P2, hr2, ht2, hk2⟩ := MapOf.insert (K := (intK (P := Tryz.prog) (kt := 3) Tryz.underlying3)) hr1 hg1 Tryz.underlying174 (W := WW.alloc (.map #[] 0)) (x := WW.heap.size) (f := [WW.heap.size]) (a := []) ⟨Mp.new WW, rfl⟩ ((Keeps.refl _ _).alloc _) (by simp); have P2' : (Instr.mapUpdate 174 (.map (some x1)) (.int .i64 a) (.map (some WW.heap.size))).run Tryz.prog (WW.alloc (.map #[] 0)) = .ok () W2 := P2; obtain ⟨x2, f3, hrx, _, _, hlx, hfx, _⟩ := hr2.focus (getM_putM_self (intK (P := Tryz.prog) (kt := 3) Tryz.underlying3) T a []); obtain ⟨hmx, rfl⟩ := hrx; have L4 : (Instr.lookup 174 (.map (some x1)) (.int .i64 a) false).run Tryz.prog W2 = .ok (.map (some x2)) W2 := hlx Tryz.underlying174 (zero_mb W2) (Keeps.refl _ _) false; obtain ⟨W3, P3, hm3, hk3, _⟩ := hmx.put Tryz.underlying53 item true; have P3' : (Instr.mapUpdate 53 (.map (some x2)) (.string item) (.bool true)).run Tryz.prog W2 = .ok () W3 := P3; have ht3 : Turned [x2] [x2] W2 W3 := ⟨hk3.mono (fun g _ hg e => hg (by simp [e])), fun g hg => .inl hg⟩; obtain ⟨f4, hr4, ht4⟩ := hfx W3 [x2] _ ⟨hm3, rfl⟩ ht3; rw [putM_putM] at hr4; have htt : Turned f1 f4 WW W3 := ht2.trans ht4
    rw [hT] at hr4
    obtain ⟨fp5, hmo5, ht6⟩ := hfx1 W3 f4 _ hr4 htt
    rw [putM_putM] at hmo5
    have Hfin := Lib.hid (show SesAt W3 b (b :: fp5) (sesAdd s person a item) ∧ Turned (b :: f) (b :: fp5) w W3 from BoxAt.turn hb hbf (by rw [Hdp.out]; exact hmo5) (ht1.trans ht6) (by rw [Hdp.out]; rfl))
    clear hb hb3 hr P1 hmo1 ht1 hk1 hr1 hl1 hfx1 P2 hr2 ht2 hk2 hmx hlx hfx P3 hm3 hk3 ht3 hr4 ht4 htt hmo5 ht6 hnd Hdp hT hI
    go_enter Tryz.func84, Tryz.ntmps84
    go_wp2_with (first | (go_at_call 107; (with_reducible refine (H1.out _).mono ?_); rintro _ _ ⟨rfl, rfl⟩) | (go_at_call 107; (with_reducible refine (H2.out _).mono ?_); rintro _ _ ⟨rfl, rfl⟩))
    go_ret
    exact ⟨rfl, _, Hfin.out⟩
  | some T0 =>
    have hT0 : T = T0 := by rw [hT]; unfold tickS; rw [hg]; rfl
    subst hT0
    obtain ⟨x1, f1, hr1, _, _, hl1, hfx1, _⟩ := MapOf.focus (K := (strK (P := Tryz.prog) (kt := 9) Tryz.underlying9)) hr hg
    obtain ⟨WW, hWW⟩ : ∃ WW, WW = w := ⟨_, rfl⟩
    have L2 : (Instr.lookup 147 (.map (some m)) (.string person) false).run Tryz.prog w = .ok (.map (some x1)) w := hl1 Tryz.underlying147 (zero_m1 w) (Keeps.refl _ _) false
    cases hg1 : getM (fun a b : Int => decide (a = b)) T a with
    | none =>
      have hI0 : I = [] := by rw [hI]; unfold itemS; rw [hg1]; rfl
      subst hI0
      subst hWW
      have L3 : (Instr.lookup 174 (.map (some x1)) (.int .i64 a) false).run Tryz.prog WW = .ok (.map none) WW := MapOf.look_none (K := (intK (P := Tryz.prog) (kt := 3) Tryz.underlying3)) hr1 hg1 Tryz.underlying174 (zero_mb WW) (Keeps.refl _ _) false; obtain ⟨W2, f2, P2, hr2, ht2, hk2⟩ := MapOf.insert (K := (intK (P := Tryz.prog) (kt := 3) Tryz.underlying3)) hr1 hg1 Tryz.underlying174 (W := WW.alloc (.map #[] 0)) (x := WW.heap.size) (f := [WW.heap.size]) (a := []) ⟨Mp.new WW, rfl⟩ ((Keeps.refl _ _).alloc _) (by simp); have P2' : (Instr.mapUpdate 174 (.map (some x1)) (.int .i64 a) (.map (some WW.heap.size))).run Tryz.prog (WW.alloc (.map #[] 0)) = .ok () W2 := P2; obtain ⟨x2, f3, hrx, _, _, hlx, hfx, _⟩ := hr2.focus (getM_putM_self (intK (P := Tryz.prog) (kt := 3) Tryz.underlying3) T a []); obtain ⟨hmx, rfl⟩ := hrx; have L4 : (Instr.lookup 174 (.map (some x1)) (.int .i64 a) false).run Tryz.prog W2 = .ok (.map (some x2)) W2 := hlx Tryz.underlying174 (zero_mb W2) (Keeps.refl _ _) false; obtain ⟨W3, P3, hm3, hk3, _⟩ := hmx.put Tryz.underlying53 item true; have P3' : (Instr.mapUpdate 53 (.map (some x2)) (.string item) (.bool true)).run Tryz.prog W2 = .ok () W3 := P3; have ht3 : Turned [x2] [x2] W2 W3 := ⟨hk3.mono (fun g _ hg e => hg (by simp [e])), fun g hg => .inl hg⟩; obtain ⟨f4, hr4, ht4⟩ := hfx W3 [x2] _ ⟨hm3, rfl⟩ ht3; rw [putM_putM] at hr4; have htt : Turned f1 f4 WW W3 := ht2.trans ht4
      obtain ⟨fp5, hmo5, ht6⟩ := hfx1 W3 f4 _ hr4 htt
      have Hfin := Lib.hid (show SesAt W3 b (b :: fp5) (sesAdd s person a item) ∧ Turned (b :: f) (b :: fp5) WW W3 from BoxAt.turn hb hbf (by rw [Hdp.out]; exact hmo5) ht6 (by rw [Hdp.out]; rfl))
      clear hb hr hr1 hl1 hfx1 P2 hr2 ht2 hk2 hmx hlx hfx P3 hm3 hk3 ht3 hr4 ht4 htt hmo5 ht6 hnd Hdp hT hI
      go_enter Tryz.func84, Tryz.ntmps84
      go_wp2_with (first | (go_at_call 107; (with_reducible refine (H1.out _).mono ?_); rintro _ _ ⟨rfl, rfl⟩) | (go_at_call 107; (with_reducible refine (H2.out _).mono ?_); rintro _ _ ⟨rfl, rfl⟩))
      go_ret
      exact ⟨rfl, _, Hfin.out⟩
    | some I0 =>
      have hI0 : I = I0 := by rw [hI]; unfold itemS; rw [hg1]; rfl
      subst hI0
      subst hWW
      obtain ⟨x2, f3, hrx, _, _, hlx, hfx, _⟩ := MapOf.focus (K := (intK (P := Tryz.prog) (kt := 3) Tryz.underlying3)) hr1 hg1; obtain ⟨hmx, rfl⟩ := hrx; have L4 : (Instr.lookup 174 (.map (some x1)) (.int .i64 a) false).run Tryz.prog WW = .ok (.map (some x2)) WW := hlx Tryz.underlying174 (zero_mb WW) (Keeps.refl _ _) false; obtain ⟨W3, P3, hm3, hk3, _⟩ := hmx.put Tryz.underlying53 item true; have P3' : (Instr.mapUpdate 53 (.map (some x2)) (.string item) (.bool true)).run Tryz.prog WW = .ok () W3 := P3; have ht3 : Turned [x2] [x2] WW W3 := ⟨hk3.mono (fun g _ hg e => hg (by simp [e])), fun g hg => .inl hg⟩; obtain ⟨f4, hr4, ht4⟩ := hfx W3 [x2] _ ⟨hm3, rfl⟩ ht3; have htt : Turned f1 f4 WW W3 := ht4
      obtain ⟨fp5, hmo5, ht6⟩ := hfx1 W3 f4 _ hr4 htt
      have Hfin := Lib.hid (show SesAt W3 b (b :: fp5) (sesAdd s person a item) ∧ Turned (b :: f) (b :: fp5) WW W3 from BoxAt.turn hb hbf (by rw [Hdp.out]; exact hmo5) ht6 (by rw [Hdp.out]; rfl))
      clear hb hr hr1 hl1 hfx1 hmx hlx hfx P3 hm3 hk3 ht3 hr4 ht4 htt hmo5 ht6 hnd Hdp hT hI
      go_enter Tryz.func84, Tryz.ntmps84
      go_wp2_with (first | (go_at_call 107; (with_reducible refine (H1.out _).mono ?_); rintro _ _ ⟨rfl, rfl⟩) | (go_at_call 107; (with_reducible refine (H2.out _).mono ?_); rintro _ _ ⟨rfl, rfl⟩))
      go_ret
      exact ⟨rfl, _, Hfin.out⟩
end Go.Proofs.YtpkkkhgmkndpdaaGreatDoor
namespace Go.Proofs.YtpkkkhgmkndpdaaGreatDoor
open Go Go.RowKit Go.Proofs
attribute [local go_sem ↓] Go.wp_at_zero Go.wp_at_succ
def linkF0 : Field := { name := "person", type := 9, offset := 0, embedded := false, tag := "", pkgPath := "cicerone/crowd", byteOffset := 0 }
def linkF1 : Field := { name := "what", type := 9, offset := 1, embedded := false, tag := "", pkgPath := "cicerone/crowd", byteOffset := 16 }
theorem linkT : TwT Tryz.prog 201 linkF0 linkF1 := ⟨Tryz.underlying201, by decide, by decide, Tryz.underlying9, Tryz.underlying9, rfl, rfl, by kernel_rfl⟩
def intV (z : Int) : Value := .int .i64 z
/-- One of a person's events, with its tags. -/
structure Deed where
  ev : Ev
  tags : List ByteArray
def deedR : Rep Deed where
  size := 9
  rep ok w d xs := ∃ A c, xs = [.string d.ev.src, .int .i64 d.ev.num, .int .i64 d.ev.tick, .int .i64 d.ev.kind, .string d.ev.person, .string d.ev.item, .int .i64 d.ev.value, .string d.ev.text, .slice A d.tags.length c] ∧ d.tags.length ≤ c ∧ Sl strR ok w A d.tags.length d.tags
  len h := by obtain ⟨A, c, rfl, _⟩ := h; rfl
  one h u hu := by
    obtain ⟨A, c, rfl, _⟩ := h
    simp at hu
    rcases hu with rfl | rfl | rfl | rfl | rfl | rfl | rfl | rfl | rfl <;> rfl
  keep hk h := by obtain ⟨A, c, rfl, hc, hs⟩ := h; exact ⟨A, c, rfl, hc, hs.keep hk⟩
  mono hm h := by obtain ⟨A, c, rfl, hc, hs⟩ := h; exact ⟨A, c, rfl, hc, hs.mono hm⟩
structure Crd where
  half : Int
  applied : Nat
  last : Ev
  people : List (ByteArray × List Deed)
  did : List (Twt × Bool)
  shown : List (Twt × Int)
  hidden : List (Twt × Bool)
  follows : List (Twt × Bool)
  mutes : List (Twt × Bool)
  liked : List (Twt × Bool)
  fans : List (ByteArray × Int)
abbrev CrdH := Nat × Nat × Nat × Nat × Nat × Nat × Nat × Nat
def crdC (c : Crd) (h : CrdH) : Array Value := #[.int .i64 c.half, .int .i64 c.applied, .string c.last.src, .int .i64 c.last.num, .int .i64 c.last.tick, .int .i64 c.last.kind, .string c.last.person, .string c.last.item, .int .i64 c.last.value, .string c.last.text, .map (some h.1), .map (some h.2.1), .map (some h.2.2.1), .map (some h.2.2.2.1), .map (some h.2.2.2.2.1), .map (some h.2.2.2.2.2.1), .map (some h.2.2.2.2.2.2.1), .map (some h.2.2.2.2.2.2.2)]
def Crd.sub (c : Crd) := (c.people, c.did, c.shown, c.hidden, c.follows, c.mutes, c.liked, c.fans)
abbrev CrdAt (w : World) (b : Nat) (fp : List Nat) (c : Crd) : Prop := BoxAt 139 crdC (pairOb (mapOb (strK (P := Tryz.prog) (kt := 9) Tryz.underlying9) (fun v : Value => v) (rowOb deedR 167)) (pairOb (mpOb (twK linkT) boolV) (pairOb (mpOb (twK linkT) intV) (pairOb (mpOb (twK linkT) boolV) (pairOb (mpOb (twK linkT) boolV) (pairOb (mpOb (twK linkT) boolV) (pairOb (mpOb (twK linkT) boolV) (mpOb (strK (P := Tryz.prog) (kt := 9) Tryz.underlying9) intV)))))))) Crd.sub w b fp c
theorem mp_at {P : Program} {kt : TypeId} {κ β : Type} (K : MK P kt κ) (V : β → Value) {w W : World} {g : Nat} (hg : g = w.heap.size) (hx : Ext (w.alloc (.map #[] 0)) W) : Mp K V W g ([] : List (κ × β)) := by
  subst hg; exact (Mp.new w).ext hx
set_option maxRecDepth 100000 in
set_option maxHeartbeats 2000000 in
theorem crd_New (half : Int) (w : World) (h0 : 1 ≤ half) (h1 : half ≤ 1099511627776) :
    Calls Tryz.prog 67 #[.int .i64 half] w fun r w' => ∃ b fp, r = .returned (.pointer (some ⟨b, 0, none⟩)) ∧ CrdAt w' b fp ⟨half, 0, ⟨⟨#[]⟩, 0, 0, 0, ⟨#[]⟩, ⟨#[]⟩, 0, ⟨#[]⟩⟩, [], [], [], [], [], [], [], []⟩ ∧ Ext w w' ∧ ∀ g ∈ fp, w.heap.size ≤ g := by
  have hmm := @run_makeMap Tryz.prog
  go_enter Tryz.func67, Tryz.ntmps67
  go_wp2_with fail
  go_ret
  exact ⟨w.heap.size + 1 + 1 + 1 + 1 + 1 + 1 + 1 + 1, [w.heap.size + 1 + 1 + 1 + 1 + 1 + 1 + 1 + 1, w.heap.size, w.heap.size + 1, w.heap.size + 1 + 1, w.heap.size + 1 + 1 + 1, w.heap.size + 1 + 1 + 1 + 1, w.heap.size + 1 + 1 + 1 + 1 + 1, w.heap.size + 1 + 1 + 1 + 1 + 1 + 1, w.heap.size + 1 + 1 + 1 + 1 + 1 + 1 + 1], rfl, BoxAt.new (h := (w.heap.size, w.heap.size + 1, w.heap.size + 1 + 1, w.heap.size + 1 + 1 + 1, w.heap.size + 1 + 1 + 1 + 1, w.heap.size + 1 + 1 + 1 + 1 + 1, w.heap.size + 1 + 1 + 1 + 1 + 1 + 1, w.heap.size + 1 + 1 + 1 + 1 + 1 + 1 + 1)) (f := [w.heap.size, w.heap.size + 1, w.heap.size + 1 + 1, w.heap.size + 1 + 1 + 1, w.heap.size + 1 + 1 + 1 + 1, w.heap.size + 1 + 1 + 1 + 1 + 1, w.heap.size + 1 + 1 + 1 + 1 + 1 + 1, w.heap.size + 1 + 1 + 1 + 1 + 1 + 1 + 1]) (blk_at _ _ (by simp)) ⟨[w.heap.size], [w.heap.size + 1, w.heap.size + 1 + 1, w.heap.size + 1 + 1 + 1, w.heap.size + 1 + 1 + 1 + 1, w.heap.size + 1 + 1 + 1 + 1 + 1, w.heap.size + 1 + 1 + 1 + 1 + 1 + 1, w.heap.size + 1 + 1 + 1 + 1 + 1 + 1 + 1], Ob.ext (O := (mapOb (strK (P := Tryz.prog) (kt := 9) Tryz.underlying9) (fun v : Value => v) (rowOb deedR 167))) (MapOf.new w) (by repeat (first | with_reducible exact Keeps.refl _ _ | with_reducible refine Keeps.drew ?_ | with_reducible refine Keeps.drewN ?_ _ | with_reducible refine Keeps.alloc ?_ _)), ⟨[w.heap.size + 1], [w.heap.size + 1 + 1, w.heap.size + 1 + 1 + 1, w.heap.size + 1 + 1 + 1 + 1, w.heap.size + 1 + 1 + 1 + 1 + 1, w.heap.size + 1 + 1 + 1 + 1 + 1 + 1, w.heap.size + 1 + 1 + 1 + 1 + 1 + 1 + 1], ⟨mp_at (w := (w.alloc (.map #[] 0))) (twK linkT) boolV (by simp) (by repeat (first | with_reducible exact Keeps.refl _ _ | with_reducible refine Keeps.drew ?_ | with_reducible refine Keeps.drewN ?_ _ | with_reducible refine Keeps.alloc ?_ _)), rfl⟩, ⟨[w.heap.size + 1 + 1], [w.heap.size + 1 + 1 + 1, w.heap.size + 1 + 1 + 1 + 1, w.heap.size + 1 + 1 + 1 + 1 + 1, w.heap.size + 1 + 1 + 1 + 1 + 1 + 1, w.heap.size + 1 + 1 + 1 + 1 + 1 + 1 + 1], ⟨mp_at (w := ((w.alloc (.map #[] 0)).alloc (.map #[] 0))) (twK linkT) intV (by simp) (by repeat (first | with_reducible exact Keeps.refl _ _ | with_reducible refine Keeps.drew ?_ | with_reducible refine Keeps.drewN ?_ _ | with_reducible refine Keeps.alloc ?_ _)), rfl⟩, ⟨[w.heap.size + 1 + 1 + 1], [w.heap.size + 1 + 1 + 1 + 1, w.heap.size + 1 + 1 + 1 + 1 + 1, w.heap.size + 1 + 1 + 1 + 1 + 1 + 1, w.heap.size + 1 + 1 + 1 + 1 + 1 + 1 + 1], ⟨mp_at (w := (((w.alloc (.map #[] 0)).alloc (.map #[] 0)).alloc (.map #[] 0))) (twK linkT) boolV (by simp) (by repeat (first | with_reducible exact Keeps.refl _ _ | with_reducible refine Keeps.drew ?_ | with_reducible refine Keeps.drewN ?_ _ | with_reducible refine Keeps.alloc ?_ _)), rfl⟩, ⟨[w.heap.size + 1 + 1 + 1 + 1], [w.heap.size + 1 + 1 + 1 + 1 + 1, w.heap.size + 1 + 1 + 1 + 1 + 1 + 1, w.heap.size + 1 + 1 + 1 + 1 + 1 + 1 + 1], ⟨mp_at (w := ((((w.alloc (.map #[] 0)).alloc (.map #[] 0)).alloc (.map #[] 0)).alloc (.map #[] 0))) (twK linkT) boolV (by simp) (by repeat (first | with_reducible exact Keeps.refl _ _ | with_reducible refine Keeps.drew ?_ | with_reducible refine Keeps.drewN ?_ _ | with_reducible refine Keeps.alloc ?_ _)), rfl⟩, ⟨[w.heap.size + 1 + 1 + 1 + 1 + 1], [w.heap.size + 1 + 1 + 1 + 1 + 1 + 1, w.heap.size + 1 + 1 + 1 + 1 + 1 + 1 + 1], ⟨mp_at (w := (((((w.alloc (.map #[] 0)).alloc (.map #[] 0)).alloc (.map #[] 0)).alloc (.map #[] 0)).alloc (.map #[] 0))) (twK linkT) boolV (by simp) (by repeat (first | with_reducible exact Keeps.refl _ _ | with_reducible refine Keeps.drew ?_ | with_reducible refine Keeps.drewN ?_ _ | with_reducible refine Keeps.alloc ?_ _)), rfl⟩, ⟨[w.heap.size + 1 + 1 + 1 + 1 + 1 + 1], [w.heap.size + 1 + 1 + 1 + 1 + 1 + 1 + 1], ⟨mp_at (w := ((((((w.alloc (.map #[] 0)).alloc (.map #[] 0)).alloc (.map #[] 0)).alloc (.map #[] 0)).alloc (.map #[] 0)).alloc (.map #[] 0))) (twK linkT) boolV (by simp) (by repeat (first | with_reducible exact Keeps.refl _ _ | with_reducible refine Keeps.drew ?_ | with_reducible refine Keeps.drewN ?_ _ | with_reducible refine Keeps.alloc ?_ _)), rfl⟩, ⟨mp_at (w := (((((((w.alloc (.map #[] 0)).alloc (.map #[] 0)).alloc (.map #[] 0)).alloc (.map #[] 0)).alloc (.map #[] 0)).alloc (.map #[] 0)).alloc (.map #[] 0))) (strK (P := Tryz.prog) (kt := 9) Tryz.underlying9) intV (by simp) (by repeat (first | with_reducible exact Keeps.refl _ _ | with_reducible refine Keeps.drew ?_ | with_reducible refine Keeps.drewN ?_ _ | with_reducible refine Keeps.alloc ?_ _)), rfl⟩, rfl, (by first | (simp; done) | (simp; omega))⟩, rfl, (by first | (simp; done) | (simp; omega))⟩, rfl, (by first | (simp; done) | (simp; omega))⟩, rfl, (by first | (simp; done) | (simp; omega))⟩, rfl, (by first | (simp; done) | (simp; omega))⟩, rfl, (by first | (simp; done) | (simp; omega))⟩, rfl, (by first | (simp; done) | (simp; omega))⟩ (by first | (simp; done) | (simp; omega)), (by repeat (first | with_reducible exact Keeps.refl _ _ | with_reducible refine Keeps.drew ?_ | with_reducible refine Keeps.drewN ?_ _ | with_reducible refine Keeps.alloc ?_ _)), (by first | (simp; done) | (simp; omega))⟩
end Go.Proofs.YtpkkkhgmkndpdaaGreatDoor
namespace Go.Proofs.YtpkkkhgmkndpdaaGreatDoor
open Go Go.RowKit Go.Proofs
attribute [local go_sem ↓] Go.wp_at_zero Go.wp_at_succ
structure Cfg where
  half : Int
  width : Int
  gap : Int
  span : Int
  floor : Int
  crowd : Int
def cfgV (c : Cfg) : Value := .agg #[.int .i64 c.half, .int .i64 c.width, .int .i64 c.gap, .int .i64 c.span, .int .i64 c.floor, .int .i64 c.crowd]
structure CfgOk (c : Cfg) : Prop where
  half : 1 ≤ c.half ∧ c.half ≤ 1099511627776
  width : 1 ≤ c.width ∧ c.width ≤ 1099511627776
  span : 1 ≤ c.span ∧ c.span ≤ 1099511627776
  mod : c.span % c.width = 0
  gap : 0 ≤ c.gap ∧ c.gap ≤ 1099511627776
  floor : 0 ≤ c.floor ∧ c.floor ≤ 1048576
  crowd : 0 ≤ c.crowd ∧ c.crowd ≤ 1048576
set_option maxRecDepth 100000 in
set_option maxHeartbeats 2000000 in
theorem wo_within (n low high : Int) (w : World) :
    Calls Tryz.prog 65 #[.int .i64 n, .int .i64 low, .int .i64 high] w fun r w' => r = .returned (.bool (decide (low ≤ n) && decide (n ≤ high))) ∧ w = w' := by
  cases h1 : decide (low ≤ n)
  · go_enter Tryz.func65, Tryz.ntmps65
    go_wp2_with fail
    go_ret
    exact ⟨rfl, rfl⟩
  · go_enter Tryz.func65, Tryz.ntmps65
    go_wp2_with fail
    go_ret
    exact ⟨rfl, rfl⟩
set_option maxRecDepth 100000 in
set_option maxHeartbeats 4000000 in
theorem wo_May_yes (c : Cfg) (w : World) (h : CfgOk c) :
    Calls Tryz.prog 42 #[.agg #[.int .i64 c.half, .int .i64 c.width, .int .i64 c.gap, .int .i64 c.span, .int .i64 c.floor, .int .i64 c.crowd]] w fun r w' => r = .returned (.bool true) ∧ Ext w w' := by
  obtain ⟨⟨a1, a2⟩, ⟨b1, b2⟩, ⟨c1, c2⟩, d0, ⟨e1, e2⟩, ⟨f1, f2⟩, ⟨g1, g2⟩⟩ := h
  have W1 := Lib.hid (fun W : World => show Calls Tryz.prog 65 #[.int .i64 c.half, .int .i64 1, .int .i64 1099511627776] W (fun r w' => r = .returned (.bool true) ∧ W = w') by have h9 := wo_within c.half 1 1099511627776 W; rwa [show (decide ((1 : Int) ≤ c.half) && decide (c.half ≤ 1099511627776)) = true by simp; omega] at h9)
  have W2 := Lib.hid (fun W : World => show Calls Tryz.prog 65 #[.int .i64 c.width, .int .i64 1, .int .i64 1099511627776] W (fun r w' => r = .returned (.bool true) ∧ W = w') by have h9 := wo_within c.width 1 1099511627776 W; rwa [show (decide ((1 : Int) ≤ c.width) && decide (c.width ≤ 1099511627776)) = true by simp; omega] at h9)
  have W3 := Lib.hid (fun W : World => show Calls Tryz.prog 65 #[.int .i64 c.span, .int .i64 1, .int .i64 1099511627776] W (fun r w' => r = .returned (.bool true) ∧ W = w') by have h9 := wo_within c.span 1 1099511627776 W; rwa [show (decide ((1 : Int) ≤ c.span) && decide (c.span ≤ 1099511627776)) = true by simp; omega] at h9)
  have W4 := Lib.hid (fun W : World => show Calls Tryz.prog 65 #[.int .i64 c.gap, .int .i64 0, .int .i64 1099511627776] W (fun r w' => r = .returned (.bool true) ∧ W = w') by have h9 := wo_within c.gap 0 1099511627776 W; rwa [show (decide ((0 : Int) ≤ c.gap) && decide (c.gap ≤ 1099511627776)) = true by simp; omega] at h9)
  have W5 := Lib.hid (fun W : World => show Calls Tryz.prog 65 #[.int .i64 c.floor, .int .i64 0, .int .i64 1048576] W (fun r w' => r = .returned (.bool true) ∧ W = w') by have h9 := wo_within c.floor 0 1048576 W; rwa [show (decide ((0 : Int) ≤ c.floor) && decide (c.floor ≤ 1048576)) = true by simp; omega] at h9)
  have W6 := Lib.hid (fun W : World => show Calls Tryz.prog 65 #[.int .i64 c.crowd, .int .i64 0, .int .i64 1048576] W (fun r w' => r = .returned (.bool true) ∧ W = w') by have h9 := wo_within c.crowd 0 1048576 W; rwa [show (decide ((0 : Int) ≤ c.crowd) && decide (c.crowd ≤ 1048576)) = true by simp; omega] at h9)
  have hx := fun o => Lib.hid (show Ext w (w.alloc o) from (Keeps.refl _ _).alloc o)
  have hwz : ¬ c.width = 0 := by omega
  have hwz2 : decide (c.width = 0) = false := by simpa using hwz
  have d1 : c.span.tmod c.width = 0 := by rw [Int.tmod_eq_emod_of_nonneg (by omega)]; exact d0
  clear a1 a2 c2 e1 e2 f1 f2 g1 g2
  go_enter Tryz.func42, Tryz.ntmps42
  go_wp2_with (go_at_call 65; (first | (with_reducible refine (W1.out _).mono ?_) | (with_reducible refine (W2.out _).mono ?_) | (with_reducible refine (W3.out _).mono ?_) | (with_reducible refine (W4.out _).mono ?_) | (with_reducible refine (W5.out _).mono ?_) | (with_reducible refine (W6.out _).mono ?_)); rintro _ _ ⟨rfl, rfl⟩)
  go_ret
  exact ⟨rfl, (hx _).out⟩
end Go.Proofs.YtpkkkhgmkndpdaaGreatDoor
