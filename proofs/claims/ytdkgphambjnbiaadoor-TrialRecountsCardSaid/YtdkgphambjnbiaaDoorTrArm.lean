/-
  What is proved here: what a hash draws, a person's bucket and arm, the program's and the document's. Conditions: no text is longer than a text can be.
-/
import Derived.Test.YtdkgphambjnbiaaDoorTrMay2
import Derived.Test.YtdkgphambjnbiaaDoorHash
import Derived.Test.YtdkgphambjnbiaaDoorQuiet
import Derived.Test.YtdkgphambjnbiaaDoorShelf
import Derived.Deep.RegionHeld3
import Derived.Deep.DeepCutAuto
namespace Go.Proofs.YtdkgphambjnbiaaDoor
open Go Go.RowKit Go.Proofs
attribute [local go_sem ↓] Go.wp_at_zero Go.wp_at_succ

theorem mul_hi (h n : Nat) : h * n / 18446744073709551616 = h / 4294967296 * n / 4294967296 + (h % 4294967296 * n / 4294967296 + h / 4294967296 * n % 4294967296) / 4294967296 := by
  have e : h * n = h / 4294967296 * n * 4294967296 + h % 4294967296 * n := by
    have := Nat.div_add_mod h 4294967296
    calc h * n = (4294967296 * (h / 4294967296) + h % 4294967296) * n := by rw [this]
      _ = _ := by rw [Nat.add_mul]; congr 1; rw [Nat.mul_comm 4294967296, Nat.mul_assoc, Nat.mul_comm 4294967296, ← Nat.mul_assoc]
  rw [e]
  generalize h / 4294967296 * n = X
  generalize h % 4294967296 * n = Y
  omega

set_option maxHeartbeats 2000000 in
theorem dr_Below (h n : Int) (h0 : 0 ≤ h) (h1 : h < 18446744073709551616) (n0 : 1 ≤ n) (n1 : n ≤ 1048576) (w : World) :
    Calls Tryd.prog 30 #[.int .u64 h, .int .i64 n] w fun e w' => e = .returned (.int .i64 (belowI h n)) ∧ w = w' := by
  obtain ⟨x, rfl⟩ : ∃ x : Nat, h = x := ⟨h.toNat, by omega⟩
  obtain ⟨y, rfl⟩ : ∃ y : Nat, n = y := ⟨n.toNat, by omega⟩
  have hb := belowI_in x y h0 h1 n0
  have hm := Tryd.bits_Mul64 x y (by omega) (by omega)
  have hq : belowI x y = ((x * y / 18446744073709551616 : Nat) : Int) := by
    unfold belowI
    rw [if_neg (by omega)]
    simp
  rw [hq] at hb ⊢
  generalize x * y / 18446744073709551616 = q at *
  generalize x * y % 18446744073709551616 = r at *
  have hq1 : q < 1048576 := by omega
  have Hm := Lib.hid hm
  clear hq hm h0 h1 hb
  go_enter Tryd.func30, Tryd.ntmps30
  go_wp2_with (go_at_call 49; refine (Hm.out _).mono ?_; rintro _ w' ⟨rfl, rfl⟩)
  go_ret
  exact ⟨rfl, rfl⟩

def hiMul (h n : Nat) : Nat := h / 4294967296 * n / 4294967296 + (h % 4294967296 * n / 4294967296 + h / 4294967296 * n % 4294967296) / 4294967296
def InU64 (x : Nat) : Prop := x < 18446744073709551616
set_option maxRecDepth 100000 in
set_option maxHeartbeats 2000000 in
theorem rf_Below (h n : Int) (h0 : 0 ≤ h) (h1 : h < 18446744073709551616) (n0 : 1 ≤ n) (n1 : n ≤ 1048576) (w : World) :
    Calls Tryd.prog 32 #[.int .u64 h, .int .i64 n] w fun e w' => e = .returned (.int .i64 (belowI h n)) ∧ w = w' := by
  obtain ⟨x, rfl⟩ : ∃ x : Nat, h = x := ⟨h.toNat, by omega⟩
  obtain ⟨y, rfl⟩ : ∃ y : Nat, n = y := ⟨n.toNat, by omega⟩
  have hq : belowI x y = ((x * y / 18446744073709551616 : Nat) : Int) := by
    unfold belowI
    rw [if_neg (by omega)]
    simp
  rw [mul_hi] at hq
  have Hx := Lib.hid (show InU64 x by unfold InU64; omega)
  have Hq := Lib.hid (show belowI x y = (hiMul x y : Nat) from hq)
  clear hq h0 h1
  go_enter Tryd.func32, Tryd.ntmps32
  go_upto_region 5 with fail
  have ea : (y : Int) / 4294967296 = 0 := by omega
  have eb : (y : Int) % 4294967296 = y := by omega
  rw [ea, eb]
  clear ea eb
  have hH : (x : Int) / 4294967296 < 4294967296 := by have := Hx.out; unfold InU64 at this; omega
  have hL : (x : Int) % 4294967296 < 4294967296 := by omega
  have hH0 : 0 ≤ (x : Int) / 4294967296 := by omega
  have hL0 : 0 ≤ (x : Int) % 4294967296 := by omega
  have Hq2 := Lib.hid (show belowI x y = (x : Int) / 4294967296 * y / 4294967296 + ((x : Int) % 4294967296 * y / 4294967296 + (x : Int) / 4294967296 * y % 4294967296) / 4294967296 by rw [Hq.out]; unfold hiMul; simp)
  generalize (x : Int) / 4294967296 = h at *
  generalize (x : Int) % 4294967296 = l at *
  have p0 : 0 ≤ l * (y : Int) := Int.mul_nonneg hL0 (by omega)
  have p1 : 0 ≤ h * (y : Int) := Int.mul_nonneg hH0 (by omega)
  have p2 : l * (y : Int) ≤ 4503599627370496 := by
    have := Int.mul_le_mul (a := l) (b := y) (c := 4294967296) (d := 1048576) (by omega) (by omega) (by omega) (by omega)
    omega
  have p3 : h * (y : Int) ≤ 4503599627370496 := by
    have := Int.mul_le_mul (a := h) (b := y) (c := 4294967296) (d := 1048576) (by omega) (by omega) (by omega) (by omega)
    omega
  go_wp2_with fail
  go_ret
  exact ⟨by rw [Hq2.out]; rfl, rfl⟩
theorem nameB_size {s : ByteArray} (h : nameB s = true) : s.size ≤ 24 := by
  simp only [nameB, Bool.and_eq_true, decide_eq_true_eq] at h; omega
theorem blk_drew {w : World} {g : Nat} {o : Obj} (h : w.heap[g]? = some o) : w.drew.heap[g]? = some o := h

set_option maxHeartbeats 2000000 in
theorem tr_Bucket (layer person : ByteArray) (w : World) (h1 : layer.size < maxLen) (h2 : person.size < maxLen) :
    Calls Tryd.prog 18 #[.string layer, .string person] w fun e w' => e = .returned (.int .i64 (bucketT layer person)) ∧ Ext w w' := by
  have hh := hash_in 1 [layer, person]
  obtain ⟨H, hH⟩ : ∃ H, H = hash 1 [layer, person] := ⟨_, rfl⟩
  have hb : bucketT layer person = belowI H 1000 := by rw [hH]; rfl
  rw [← hH] at hh
  have HB := Lib.hid (dr_Below H 1000 hh.1 hh.2 (by decide) (by decide))
  have HH := Lib.hid hH
  have Hb := Lib.hid hb
  have Hs := Lib.hid (show ∀ s ∈ [layer, person], s.size ≤ maxLen from fun s hs => by
    simp only [List.mem_cons, List.not_mem_nil, or_false] at hs
    rcases hs with rfl | rfl <;> omega)
  clear hh hH hb
  go_enter Tryd.func18, Tryd.ntmps18
  go_wp2_with (first
    | (go_at_call 31; refine (draw_Hash 1 _ 2 2 [layer, person] (fun _ => True) _ (Sl.new_strs (blk_new _ _) trivial rfl rfl) (by decide) Hs.out).mono ?_; rw [← HH.out]; rintro _ w' ⟨rfl, rfl⟩)
    | (go_at_call 30; refine (HB.out _).mono ?_; rintro _ w' ⟨rfl, rfl⟩))
  go_ret
  exact ⟨by rw [Hb.out]; rfl, (Keeps.refl _ _).alloc _⟩

set_option maxHeartbeats 2000000 in
theorem rf_Bucket (layer person : ByteArray) (w : World) (h1 : layer.size < maxLen) (h2 : person.size < maxLen) :
    Calls Tryd.prog 19 #[.string layer, .string person] w fun e w' => e = .returned (.int .i64 (bucketT layer person)) ∧ Ext w w' := by
  have hh := hash_in 1 [layer, person]
  obtain ⟨H, hH⟩ : ∃ H, H = hash 1 [layer, person] := ⟨_, rfl⟩
  have hb : bucketT layer person = belowI H 1000 := by rw [hH]; rfl
  rw [← hH] at hh
  have HB := Lib.hid (rf_Below H 1000 hh.1 hh.2 (by decide) (by decide))
  have HH := Lib.hid hH
  have Hb := Lib.hid hb
  have Hs := Lib.hid (show ∀ s ∈ [layer, person], s.size < maxLen from fun s hs => by
    simp only [List.mem_cons, List.not_mem_nil, or_false] at hs
    rcases hs with rfl | rfl <;> omega)
  clear hh hH hb
  go_enter Tryd.func19, Tryd.ntmps19
  go_wp2_with (first
    | (go_at_call 33; refine (ref_Hash 1 _ 2 2 [layer, person] (fun _ => True) _ (Sl.new_strs (blk_new _ _) trivial rfl rfl) (by decide) Hs.out).mono ?_; rw [← HH.out]; rintro _ w' ⟨rfl, rfl⟩)
    | (go_at_call 32; refine (HB.out _).mono ?_; rintro _ w' ⟨rfl, rfl⟩))
  go_ret
  exact ⟨by rw [Hb.out]; rfl, (Keeps.refl _ _).alloc _⟩

set_option maxRecDepth 100000 in
set_option maxHeartbeats 4000000 in
theorem tr_Arm (t : Tr) (person : ByteArray) (A : Option Addr) (c : Nat) (ok : Nat → Prop) (w : World) (hs : Sl strR ok w A t.arms.length t.arms) (hc : t.arms.length ≤ c) (hwf : TrWf t) (hp : person.size < maxLen) :
    Calls Tryd.prog 14 #[.agg #[.string t.name, .string t.layer, .int .i64 t.lo, .int .i64 t.hi, .slice A t.arms.length c], .string person] w fun r w' => r = .returned (.tuple #[.string (armT t person), .bool (inT t person)]) ∧ Ext w w' := by
  have Hwf := Lib.hid hwf
  have Hs := Lib.hid hs
  clear hwf hs
  cases hm : mayT t
  · have Hi := Lib.hid (show inT t person = false by unfold inT; rw [hm]; rfl)
    have Ha := Lib.hid (show armT t person = ⟨#[]⟩ by unfold armT; rw [Hi.out]; rfl)
    go_enter Tryd.func14, Tryd.ntmps14
    go_wp2_with (go_at_call 16; refine (tr_May t A c ok _ (Hs.out.alloc _) hc Hwf.out).mono ?_; rw [hm]; rintro _ w1 ⟨rfl, hx1⟩; have Hx1 := Lib.hid hx1; clear hx1)
    go_ret2
    exact ⟨by rw [Hi.out, Ha.out]; rfl, Keeps.trans ((Keeps.refl _ _).alloc _) Hx1.out⟩
  have hpt := mayT_parts hm
  have hlay : t.layer.size < maxLen := by have := nameB_size hpt.layer; unfold maxLen; omega
  have hnam : t.name.size < maxLen := by have := nameB_size hpt.name; unfold maxLen; omega
  obtain ⟨B, hB⟩ : ∃ B, B = bucketT t.layer person := ⟨_, rfl⟩
  have HB := Lib.hid hB
  have hBin := bucketT_in t.layer person
  rw [← hB] at hBin
  have Hin := Lib.hid (show inT t person = (!decide (B < t.lo) && !decide (t.hi ≤ B)) by unfold inT; rw [hm, hB]; rfl)
  have Hpt := Lib.hid hpt
  clear hB hpt
  by_cases h1 : B < t.lo ∨ t.hi ≤ B
  · have Hi := Lib.hid (show inT t person = false by rw [Hin.out]; rcases h1 with h | h <;> simp <;> intro _ <;> omega)
    have Ha := Lib.hid (show armT t person = ⟨#[]⟩ by unfold armT; rw [Hi.out]; rfl)
    by_cases h2 : B < t.lo
    · clear h1
      go_enter Tryd.func14, Tryd.ntmps14
      go_wp2_with (first
        | (go_at_call 16; refine (tr_May t A c ok _ (Hs.out.alloc _) hc Hwf.out).mono ?_; rw [hm]; rintro _ w1 ⟨rfl, hx1⟩; have g1 := hx1.blk (blk_new w _); have r1 := blk_cell g1 1 rfl; have r2 := blk_cell g1 2 rfl; have r3 := blk_cell g1 3 rfl; have Hg1 := Lib.hid g1; have Hx1 := Lib.hid hx1; clear hx1 g1)
        | (go_at_call 18; refine (tr_Bucket t.layer person _ hlay hp).mono ?_; rw [← HB.out]; rintro _ w2 ⟨rfl, hx2⟩; have g2 := hx2.blk Hg1.out; have q2 := blk_cell g2 2 rfl; have q3 := blk_cell g2 3 rfl; have Hx2 := Lib.hid hx2; clear hx2 g2))
      go_ret2
      exact ⟨by rw [Hi.out, Ha.out]; rfl, Keeps.trans (Keeps.trans ((Keeps.refl _ _).alloc _) Hx1.out) Hx2.out⟩
    · have h3 : t.hi ≤ B := by omega
      have h2' : decide (B < t.lo) = false := by simpa using h2
      clear h1
      go_enter Tryd.func14, Tryd.ntmps14
      go_wp2_with (first
        | (go_at_call 16; refine (tr_May t A c ok _ (Hs.out.alloc _) hc Hwf.out).mono ?_; rw [hm]; rintro _ w1 ⟨rfl, hx1⟩; have g1 := hx1.blk (blk_new w _); have r1 := blk_cell g1 1 rfl; have r2 := blk_cell g1 2 rfl; have r3 := blk_cell g1 3 rfl; have Hg1 := Lib.hid g1; have Hx1 := Lib.hid hx1; clear hx1 g1)
        | (go_at_call 18; refine (tr_Bucket t.layer person _ hlay hp).mono ?_; rw [← HB.out]; rintro _ w2 ⟨rfl, hx2⟩; have g2 := hx2.blk Hg1.out; have q2 := blk_cell g2 2 rfl; have q3 := blk_cell g2 3 rfl; have Hx2 := Lib.hid hx2; clear hx2 g2))
      go_ret2
      exact ⟨by rw [Hi.out, Ha.out]; rfl, Keeps.trans (Keeps.trans ((Keeps.refl _ _).alloc _) Hx1.out) Hx2.out⟩
  · have Hi := Lib.hid (show inT t person = true by rw [Hin.out]; simp; omega)
    have h2' : decide (B < t.lo) = false := by simp; omega
    have h3' : decide (t.hi ≤ B) = false := by simp; omega
    have h2 : t.lo ≤ B := by omega
    have h3 : B < t.hi := by omega
    have hone := Hpt.out.one
    have hfew := Hpt.out.few
    have hni := armNo_in t person hone
    have hat := armT_at Hi.out
    have hh := hash_in 2 [t.name, person]
    obtain ⟨H, hH⟩ : ∃ H, H = hash 2 [t.name, person] := ⟨_, rfl⟩
    have hb : armNo t person = belowI H t.arms.length := by rw [hH]; rfl
    rw [← hH] at hh
    have HD := dr_Below H t.arms.length hh.1 hh.2 (by omega) (by omega)
    rw [← hb] at HD
    obtain ⟨j, hj⟩ : ∃ j : Nat, armNo t person = j := ⟨(armNo t person).toNat, by omega⟩
    rw [hj] at HD hat hni
    simp only [Int.toNat_natCast] at hat
    have hjl : j < t.arms.length := by omega
    replace HD := Lib.hid HD
    have HH := Lib.hid hH
    have Hat := Lib.hid hat
    have Hss := Lib.hid (show ∀ s ∈ [t.name, person], s.size ≤ maxLen from fun s hs => by
      simp only [List.mem_cons, List.not_mem_nil, or_false] at hs
      rcases hs with rfl | rfl <;> omega)
    clear h1 hh hb hH hj hat hni
    go_enter Tryd.func14, Tryd.ntmps14
    go_wp2_with (first
      | (go_at_call 16; refine (tr_May t A c ok _ (Hs.out.alloc _) hc Hwf.out).mono ?_; rw [hm]; rintro _ w1 ⟨rfl, hx1⟩; have g1 := hx1.blk (blk_new w _); have r1 := blk_cell g1 1 rfl; have r2 := blk_cell g1 2 rfl; have r3 := blk_cell g1 3 rfl; have Hg1 := Lib.hid g1; have Hx1 := Lib.hid hx1; clear hx1 g1)
      | (go_at_call 18; refine (tr_Bucket t.layer person _ hlay hp).mono ?_; rw [← HB.out]; rintro _ w2 ⟨rfl, hx2⟩; have g2 := hx2.blk Hg1.out; have q2 := blk_cell g2 2 rfl; have q3 := blk_cell g2 3 rfl; have Hg2 := Lib.hid g2; have Hx2 := Lib.hid (Keeps.trans (Keeps.trans ((Keeps.refl (fun _ => True) w).alloc _) Hx1.out) hx2); clear hx2 g2))
    clear r1 r2 r3 q2 q3
    have q0 := blk_cell Hg2.out 0 rfl
    have q4 := blk_cell Hg2.out 4 rfl
    obtain ⟨b, o, s, rfl, hb', _, hs1, hc1⟩ := (Hs.out.ext Hx2.out).str hjl
    obtain rfl : s = armT t person := Option.some.inj (hs1.symm.trans Hat.out)
    have hb1 : w.heap.size < w2.heap.size := (Array.getElem?_eq_some_iff.1 Hg2.out).1
    have j0 : (0 : Int) ≤ (j : Int) := by omega
    have j1 : (j : Int) < (t.arms.length : Int) := by omega
    have Ho := Lib.hid (Old.refl w2)
    clear hs1
    go_region_held3 (fun w' => w2.heap.size ≤ w'.heap.size ∧ ∀ p : Addr, p.block < w2.heap.size → w'.cell? p = w2.cell? p) (repeat (first | with_reducible assumption | with_reducible exact Ho.out | with_reducible refine Old.drew ?_ | with_reducible refine Old.alloc ?_ _)) (first
      | (go_at_call 31; refine (draw_Hash 2 _ 2 2 [t.name, person] (fun _ => True) _ (Sl.new_strs (by first | with_reducible exact blk_new _ _ | with_reducible exact blk_drew (blk_new _ _)) trivial rfl rfl) (by decide) Hss.out).mono ?_; rw [← HH.out]; rintro _ w' ⟨rfl, rfl⟩)
      | (go_at_call 30; refine (HD.out _).mono ?_; rintro _ w' ⟨rfl, rfl⟩))
    all_goals
      go_wp2_with fail
      go_ret2
      exact ⟨by rw [Hi.out]; rfl, Keeps.trans Hx2.out (by repeat (first | with_reducible exact Keeps.refl _ _ | with_reducible refine Keeps.drew ?_ | with_reducible refine Keeps.drewN ?_ _ | with_reducible refine Keeps.alloc ?_ _))⟩

set_option maxRecDepth 100000 in
set_option maxHeartbeats 4000000 in
theorem rf_Arm (t : Tr) (person : ByteArray) (A : Option Addr) (c : Nat) (ok : Nat → Prop) (w : World) (hs : Sl strR ok w A t.arms.length t.arms) (hwf : TrWf t) (hp : person.size < maxLen) :
    Calls Tryd.prog 15 #[.agg #[.string t.name, .string t.layer, .int .i64 t.lo, .int .i64 t.hi, .slice A t.arms.length c], .string person] w fun r w' => r = .returned (.tuple #[.string (armT t person), .bool (inT t person)]) ∧ Ext w w' := by
  have Hwf := Lib.hid hwf
  have Hs := Lib.hid hs
  clear hwf hs
  cases hm : mayT t
  · have Hi := Lib.hid (show inT t person = false by unfold inT; rw [hm]; rfl)
    have Ha := Lib.hid (show armT t person = ⟨#[]⟩ by unfold armT; rw [Hi.out]; rfl)
    go_enter Tryd.func15, Tryd.ntmps15
    go_wp2_with (go_at_call 17; refine (rf_May t A c ok _ (Hs.out.alloc _) Hwf.out).mono ?_; rw [hm]; rintro _ w1 ⟨rfl, hx1⟩; have Hx1 := Lib.hid hx1; clear hx1)
    go_ret2
    exact ⟨by rw [Hi.out, Ha.out]; rfl, Keeps.trans ((Keeps.refl _ _).alloc _) Hx1.out⟩
  have hpt := mayT_parts hm
  have hlay : t.layer.size < maxLen := by have := nameB_size hpt.layer; unfold maxLen; omega
  have hnam : t.name.size < maxLen := by have := nameB_size hpt.name; unfold maxLen; omega
  obtain ⟨B, hB⟩ : ∃ B, B = bucketT t.layer person := ⟨_, rfl⟩
  have HB := Lib.hid hB
  have hBin := bucketT_in t.layer person
  rw [← hB] at hBin
  have Hin := Lib.hid (show inT t person = (!decide (B < t.lo) && !decide (t.hi ≤ B)) by unfold inT; rw [hm, hB]; rfl)
  have Hpt := Lib.hid hpt
  clear hB hpt
  by_cases h1 : B < t.lo ∨ t.hi ≤ B
  · have Hi := Lib.hid (show inT t person = false by rw [Hin.out]; rcases h1 with h | h <;> simp <;> intro _ <;> omega)
    have Ha := Lib.hid (show armT t person = ⟨#[]⟩ by unfold armT; rw [Hi.out]; rfl)
    by_cases h2 : B < t.lo
    · clear h1
      go_enter Tryd.func15, Tryd.ntmps15
      go_wp2_with (first
        | (go_at_call 17; refine (rf_May t A c ok _ (Hs.out.alloc _) Hwf.out).mono ?_; rw [hm]; rintro _ w1 ⟨rfl, hx1⟩; have g1 := hx1.blk (blk_new w _); have r1 := blk_cell g1 1 rfl; have r2 := blk_cell g1 2 rfl; have r3 := blk_cell g1 3 rfl; have Hg1 := Lib.hid g1; have Hx1 := Lib.hid hx1; clear hx1 g1)
        | (go_at_call 19; refine (rf_Bucket t.layer person _ hlay hp).mono ?_; rw [← HB.out]; rintro _ w2 ⟨rfl, hx2⟩; have g2 := hx2.blk Hg1.out; have q2 := blk_cell g2 2 rfl; have q3 := blk_cell g2 3 rfl; have Hx2 := Lib.hid hx2; clear hx2 g2))
      go_ret2
      exact ⟨by rw [Hi.out, Ha.out]; rfl, Keeps.trans (Keeps.trans ((Keeps.refl _ _).alloc _) Hx1.out) Hx2.out⟩
    · have h3 : t.hi ≤ B := by omega
      have h2' : decide (B < t.lo) = false := by simpa using h2
      clear h1
      go_enter Tryd.func15, Tryd.ntmps15
      go_wp2_with (first
        | (go_at_call 17; refine (rf_May t A c ok _ (Hs.out.alloc _) Hwf.out).mono ?_; rw [hm]; rintro _ w1 ⟨rfl, hx1⟩; have g1 := hx1.blk (blk_new w _); have r1 := blk_cell g1 1 rfl; have r2 := blk_cell g1 2 rfl; have r3 := blk_cell g1 3 rfl; have Hg1 := Lib.hid g1; have Hx1 := Lib.hid hx1; clear hx1 g1)
        | (go_at_call 19; refine (rf_Bucket t.layer person _ hlay hp).mono ?_; rw [← HB.out]; rintro _ w2 ⟨rfl, hx2⟩; have g2 := hx2.blk Hg1.out; have q2 := blk_cell g2 2 rfl; have q3 := blk_cell g2 3 rfl; have Hx2 := Lib.hid hx2; clear hx2 g2))
      go_ret2
      exact ⟨by rw [Hi.out, Ha.out]; rfl, Keeps.trans (Keeps.trans ((Keeps.refl _ _).alloc _) Hx1.out) Hx2.out⟩
  · have Hi := Lib.hid (show inT t person = true by rw [Hin.out]; simp; omega)
    have h2' : decide (B < t.lo) = false := by simp; omega
    have h3' : decide (t.hi ≤ B) = false := by simp; omega
    have h2 : t.lo ≤ B := by omega
    have h3 : B < t.hi := by omega
    have hone := Hpt.out.one
    have hfew := Hpt.out.few
    have hni := armNo_in t person hone
    have hat := armT_at Hi.out
    have hh := hash_in 2 [t.name, person]
    obtain ⟨H, hH⟩ : ∃ H, H = hash 2 [t.name, person] := ⟨_, rfl⟩
    have hb : armNo t person = belowI H t.arms.length := by rw [hH]; rfl
    rw [← hH] at hh
    have HD := rf_Below H t.arms.length hh.1 hh.2 (by omega) (by omega)
    rw [← hb] at HD
    obtain ⟨j, hj⟩ : ∃ j : Nat, armNo t person = j := ⟨(armNo t person).toNat, by omega⟩
    rw [hj] at HD hat hni
    simp only [Int.toNat_natCast] at hat
    have hjl : j < t.arms.length := by omega
    replace HD := Lib.hid HD
    have HH := Lib.hid hH
    have Hat := Lib.hid hat
    have Hss := Lib.hid (show ∀ s ∈ [t.name, person], s.size < maxLen from fun s hs => by
      simp only [List.mem_cons, List.not_mem_nil, or_false] at hs
      rcases hs with rfl | rfl <;> omega)
    clear h1 hh hb hH hj hat hni
    go_enter Tryd.func15, Tryd.ntmps15
    go_wp2_with (first
      | (go_at_call 17; refine (rf_May t A c ok _ (Hs.out.alloc _) Hwf.out).mono ?_; rw [hm]; rintro _ w1 ⟨rfl, hx1⟩; have g1 := hx1.blk (blk_new w _); have r1 := blk_cell g1 1 rfl; have r2 := blk_cell g1 2 rfl; have r3 := blk_cell g1 3 rfl; have Hg1 := Lib.hid g1; have Hx1 := Lib.hid hx1; clear hx1 g1)
      | (go_at_call 19; refine (rf_Bucket t.layer person _ hlay hp).mono ?_; rw [← HB.out]; rintro _ w2 ⟨rfl, hx2⟩; have g2 := hx2.blk Hg1.out; have q2 := blk_cell g2 2 rfl; have q3 := blk_cell g2 3 rfl; have Hg2 := Lib.hid g2; have Hx2 := Lib.hid (Keeps.trans (Keeps.trans ((Keeps.refl (fun _ => True) w).alloc _) Hx1.out) hx2); clear hx2 g2))
    clear r1 r2 r3 q2 q3
    have q0 := blk_cell Hg2.out 0 rfl
    have q4 := blk_cell Hg2.out 4 rfl
    obtain ⟨b, o, s, rfl, hb', _, hs1, hc1⟩ := (Hs.out.ext Hx2.out).str hjl
    obtain rfl : s = armT t person := Option.some.inj (hs1.symm.trans Hat.out)
    have hb1 : w.heap.size < w2.heap.size := (Array.getElem?_eq_some_iff.1 Hg2.out).1
    have j0 : (0 : Int) ≤ (j : Int) := by omega
    have j1 : (j : Int) < (t.arms.length : Int) := by omega
    have Ho := Lib.hid (Old.refl w2)
    clear hs1
    go_region_held3 (fun w' => w2.heap.size ≤ w'.heap.size ∧ ∀ p : Addr, p.block < w2.heap.size → w'.cell? p = w2.cell? p) (repeat (first | with_reducible assumption | with_reducible exact Ho.out | with_reducible refine Old.drew ?_ | with_reducible refine Old.alloc ?_ _)) (first
      | (go_at_call 33; refine (ref_Hash 2 _ 2 2 [t.name, person] (fun _ => True) _ (Sl.new_strs (by first | with_reducible exact blk_new _ _ | with_reducible exact blk_drew (blk_new _ _)) trivial rfl rfl) (by decide) Hss.out).mono ?_; rw [← HH.out]; rintro _ w' ⟨rfl, rfl⟩)
      | (go_at_call 32; refine (HD.out _).mono ?_; rintro _ w' ⟨rfl, rfl⟩))
    all_goals
      go_wp2_with fail
      go_ret2
      exact ⟨by rw [Hi.out]; rfl, Keeps.trans Hx2.out (by repeat (first | with_reducible exact Keeps.refl _ _ | with_reducible refine Keeps.drew ?_ | with_reducible refine Keeps.drewN ?_ _ | with_reducible refine Keeps.alloc ?_ _))⟩
end Go.Proofs.YtdkgphambjnbiaaDoor
