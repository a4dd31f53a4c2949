/-
  What is proved here: what an event is worth, by the program. No condition.
  slices.Index, slices.Contains of texts. Conditions: lengths that fit. (Out of XTrMay.)
  what the crowd notes of an event: each of its maps in sight, note. Conditions: the event may be, is one of a person's deeds; counts that fit.
  an event more for the crowd (Apply). Conditions: the event may be, is one of a person's deeds, stands behind all ahead of it; counts that fit.
-/
import Derived.Test.YtpkkkhgmkndpdaaGreatDoorEvCmp
import Derived.Test.YtpkkkhgmkndpdaaGreatDoorEvM
import Derived.Deep.QuietTactic
import Derived.BigQuiet
import Derived.Deep.DrawnRows
import Derived.Laws.StructEq
import Derived.Test.YtpkkkhgmkndpdaaGreatDoorWoDec
import Derived.Test.YtpkkkhgmkndpdaaGreatDoorOb
import Derived.Test.YtpkkkhgmkndpdaaGreatDoorBase
import Derived.Deep.RegionWith
import Derived.Deep.RegionHeld3
import Derived.Deep.DeepCutAuto
import Derived.Deep.CutBlock
import Derived.Test.YtpkkkhgmkndpdaaGreatDoorEvMay
namespace Go.Proofs.YtpkkkhgmkndpdaaGreatDoor
open Go Go.RowKit Go.Proofs
attribute [local go_sem ↓] Go.wp_at_zero Go.wp_at_succ
set_option maxRecDepth 100000 in
set_option maxHeartbeats 2000000 in
theorem ev_Worth (e : Ev) (w : World) :
    Calls Tryz.prog 81 #[.agg #[.string e.src, .int .i64 e.num, .int .i64 e.tick, .int .i64 e.kind, .string e.person, .string e.item, .int .i64 e.value, .string e.text]] w fun r w' => r = .returned (.int .i64 (worthE e)) ∧ Ext w w' := by
  have Hf := Lib.hid (show worthE e = if (e.kind == 1) = true then 1 else if (e.kind == 2) = true then 3 else if (e.kind == 3) = true then 5 else if (e.kind == 4) = true then e.value else 0 by unfold worthE; simp only [beq_iff_eq])
  go_enter Tryz.func81, Tryz.ntmps81
  go_wp2_with fail
  all_goals
    go_ret
    refine ⟨?_, (Keeps.refl _ _).alloc _⟩
    rw [Hf.out]
    repeat (first | rw [if_pos (by assumption)] | rw [if_neg (by rw [Bool.not_eq_true]; assumption)])
    rfl
end Go.Proofs.YtpkkkhgmkndpdaaGreatDoor
namespace Go.Proofs.YtpkkkhgmkndpdaaGreatDoor
open Go Go.RowKit Go.Proofs
attribute [local go_sem ↓] Go.wp_at_zero Go.wp_at_succ

theorem any_step {l : List ByteArray} {k : Nat} {a x : ByteArray} (h : l[k]? = some x) (hall : (l.take k).any (fun y => a == y) = false) (hx : (a == x) = false) : (l.take (k + 1)).any (fun y => a == y) = false := by
  rw [List.take_add_one, h, List.any_append, hall]; simp [hx]
theorem any_hit {l : List ByteArray} {k : Nat} {a x : ByteArray} (h : l[k]? = some x) (hx : (a == x) = true) : l.any (fun y => a == y) = true := by
  rw [List.any_eq_true]; exact ⟨x, List.mem_of_getElem? h, hx⟩

/-- The place of a text in a list. -/
def idxI (l : List ByteArray) (a : ByteArray) : Int := match l.findIdx? (fun x => a == x) with | some k => (k : Int) | none => -1
theorem idxI_hit {l : List ByteArray} {k : Nat} {a x : ByteArray} (h : l[k]? = some x) (hx : (a == x) = true) (hall : (l.take k).any (fun y => a == y) = false) : idxI l a = k := by
  have : l.findIdx? (fun x => a == x) = some k := by
    rw [List.findIdx?_eq_some_iff_getElem]
    have hk : k < l.length := (List.getElem?_eq_some_iff.1 h).1
    refine ⟨hk, by rw [(List.getElem?_eq_some_iff.1 h).2]; exact hx, fun j hj => ?_⟩
    intro hc
    have : (l.take k).any (fun y => a == y) = true := List.any_eq_true.2 ⟨l[j], by rw [List.mem_take_iff_getElem]; exact ⟨j, by omega, rfl⟩, hc⟩
    rw [hall] at this; cases this
  simp [idxI, this]
theorem idxI_none {l : List ByteArray} {a : ByteArray} (h : l.any (fun y => a == y) = false) : idxI l a = -1 := by
  have : l.findIdx? (fun x => a == x) = none := by
    rw [List.findIdx?_eq_none_iff]
    intro x hx
    rw [Bool.eq_false_iff]; intro hc
    have : l.any (fun y => a == y) = true := List.any_eq_true.2 ⟨x, hx, hc⟩
    rw [h] at this; cases this
  simp [idxI, this]
theorem idxI_any (l : List ByteArray) (a : ByteArray) : decide (0 ≤ idxI l a) = l.any (fun y => a == y) := by
  cases h : l.any (fun y => a == y)
  · rw [idxI_none h]; rfl
  · unfold idxI
    cases h2 : l.findIdx? (fun x => a == x) with
    | some k => simp
    | none =>
      rw [List.findIdx?_eq_none_iff] at h2
      obtain ⟨x, hx, hc⟩ := List.any_eq_true.1 h
      rw [h2 x hx] at hc; cases hc

set_option maxRecDepth 100000 in
set_option maxHeartbeats 2000000 in
theorem idx_str (A : Option Addr) (n c : Nat) (l : List ByteArray) (a : ByteArray) (ok : Nat → Prop) (w : World) (hs : Sl strR ok w A n l) (hn : n ≤ maxLen) :
    Calls Tryz.prog 138 #[.slice A n c, .string a] w fun e w' => e = .returned (.int .i64 (idxI l a)) ∧ w = w' := by
  unfold maxLen at hn
  have Hln := Lib.hid hs.1
  go_enter Tryz.func138, Tryz.ntmps138
  go_wp2_with fail
  go_loop [5, 8] (fun _ i => ∃ k : Nat, k ≤ n ∧ i = .int .i64 k ∧ (l.take k).any (fun y => a == y) = false) (fun _ i => n - (intOf i).toNat)
  case atStart => exact ⟨0, Nat.zero_le _, rfl, by simp⟩
  case round =>
    obtain ⟨k, hk, rfl, hall⟩ := hrel
    have Hall := Lib.hid hall
    clear hall
    by_cases hlt : k < n
    · obtain ⟨b, o, s, rfl, hb, ho, hs1, hc1⟩ := hs.str hlt
      have Hs1 := Lib.hid hs1
      clear hs1
      cases h7 : (a == s) <;> have h7' := h7 <;> rw [beq_toListBytes] at h7'
      · have Ht := Lib.hid (any_step Hs1.out Hall.out h7)
        go_wp2_with fail
        go_round
        case rel => exact ⟨k + 1, by omega, by go_num, Ht.out⟩
        case measure => simp [intOf]; omega
      · have Hf := Lib.hid (idxI_hit Hs1.out h7 Hall.out)
        go_wp2_with fail
        go_ret
        exact ⟨by rw [Hf.out]; rfl, rfl⟩
    · have Hf := Lib.hid (idxI_none (l := l) (a := a) (by have := Hall.out; rw [List.take_of_length_le (by have := Hln.out; omega)] at this; exact this))
      go_wp2
      go_ret
      exact ⟨by rw [Hf.out]; rfl, rfl⟩
theorem contains_str (A : Option Addr) (n c : Nat) (l : List ByteArray) (a : ByteArray) (ok : Nat → Prop) (w : World) (hs : Sl strR ok w A n l) (hn : n ≤ maxLen) :
    Calls Tryz.prog 102 #[.slice A n c, .string a] w fun e w' => e = .returned (.bool (l.any (fun y => a == y))) ∧ w = w' := by
  have Hb := Lib.hid (idxI_any l a)
  go_enter Tryz.func102, Tryz.ntmps102
  go_wp2_with (go_at_call 138; refine (idx_str _ _ _ _ _ _ _ hs hn).mono ?_; rintro _ w' ⟨rfl, rfl⟩)
  go_ret
  exact ⟨by rw [← Hb.out]; rfl, rfl⟩

end Go.Proofs.YtpkkkhgmkndpdaaGreatDoor
namespace Go.Proofs.YtpkkkhgmkndpdaaGreatDoor
open Go Go.RowKit Go.Proofs
attribute [local go_sem ↓] Go.wp_at_zero Go.wp_at_succ
section
variable {w : World} {b : Nat} {fp : List Nat} {c : Crd}
theorem crd_did (h : CrdAt w b fp c) : ∃ m, w.cell? ⟨b, 11, none⟩ = some (.map (some m)) ∧ m ≠ b ∧ m ∈ fp ∧ Mp (twK linkT) boolV w m c.did ∧ ∀ (W : World) (v : List (Twt × Bool)), Mp (twK linkT) boolV W m v → Keeps (fun g => g ≠ m) w W → ∃ fp', CrdAt W b fp' { c with did := v } ∧ Turned fp fp' w W := by
  obtain ⟨x, f, hb, h0, s0, n0, _, _, k0, _⟩ := BoxAt.focus h
  obtain ⟨f1, h1, s1, k1⟩ := PairAt.focus2 h0
  obtain ⟨f2, h2, s2, k2⟩ := PairAt.focus1 h1
  obtain ⟨hm, rfl⟩ := h2
  refine ⟨_, blk_cell hb 11 rfl, fun e => n0 (e ▸ s1 _ (s2 _ (by simp))), s0 _ (s1 _ (s2 _ (by simp))), hm, fun W v hv hk => ?_⟩
  obtain ⟨_, r1, t1⟩ := k2 W _ _ v ⟨hv, rfl⟩ (mp_turned hk)
  obtain ⟨_, r2, t2⟩ := k1 W _ _ _ r1 t1
  exact k0 W _ { c with did := v } r2 t2 rfl
theorem crd_shown (h : CrdAt w b fp c) : ∃ m, w.cell? ⟨b, 12, none⟩ = some (.map (some m)) ∧ m ≠ b ∧ m ∈ fp ∧ Mp (twK linkT) intV w m c.shown ∧ ∀ (W : World) (v : List (Twt × Int)), Mp (twK linkT) intV W m v → Keeps (fun g => g ≠ m) w W → ∃ fp', CrdAt W b fp' { c with shown := v } ∧ Turned fp fp' w W := by
  obtain ⟨x, f, hb, h0, s0, n0, _, _, k0, _⟩ := BoxAt.focus h
  obtain ⟨f1, h1, s1, k1⟩ := PairAt.focus2 h0
  obtain ⟨f2, h2, s2, k2⟩ := PairAt.focus2 h1
  obtain ⟨f3, h3, s3, k3⟩ := PairAt.focus1 h2
  obtain ⟨hm, rfl⟩ := h3
  refine ⟨_, blk_cell hb 12 rfl, fun e => n0 (e ▸ s1 _ (s2 _ (s3 _ (by simp)))), s0 _ (s1 _ (s2 _ (s3 _ (by simp)))), hm, fun W v hv hk => ?_⟩
  obtain ⟨_, r1, t1⟩ := k3 W _ _ v ⟨hv, rfl⟩ (mp_turned hk)
  obtain ⟨_, r2, t2⟩ := k2 W _ _ _ r1 t1
  obtain ⟨_, r3, t3⟩ := k1 W _ _ _ r2 t2
  exact k0 W _ { c with shown := v } r3 t3 rfl
theorem crd_hidden (h : CrdAt w b fp c) : ∃ m, w.cell? ⟨b, 13, none⟩ = some (.map (some m)) ∧ m ≠ b ∧ m ∈ fp ∧ Mp (twK linkT) boolV w m c.hidden ∧ ∀ (W : World) (v : List (Twt × Bool)), Mp (twK linkT) boolV W m v → Keeps (fun g => g ≠ m) w W → ∃ fp', CrdAt W b fp' { c with hidden := v } ∧ Turned fp fp' w W := by
  obtain ⟨x, f, hb, h0, s0, n0, _, _, k0, _⟩ := BoxAt.focus h
  obtain ⟨f1, h1, s1, k1⟩ := PairAt.focus2 h0
  obtain ⟨f2, h2, s2, k2⟩ := PairAt.focus2 h1
  obtain ⟨f3, h3, s3, k3⟩ := PairAt.focus2 h2
  obtain ⟨f4, h4, s4, k4⟩ := PairAt.focus1 h3
  obtain ⟨hm, rfl⟩ := h4
  refine ⟨_, blk_cell hb 13 rfl, fun e => n0 (e ▸ s1 _ (s2 _ (s3 _ (s4 _ (by simp))))), s0 _ (s1 _ (s2 _ (s3 _ (s4 _ (by simp))))), hm, fun W v hv hk => ?_⟩
  obtain ⟨_, r1, t1⟩ := k4 W _ _ v ⟨hv, rfl⟩ (mp_turned hk)
  obtain ⟨_, r2, t2⟩ := k3 W _ _ _ r1 t1
  obtain ⟨_, r3, t3⟩ := k2 W _ _ _ r2 t2
  obtain ⟨_, r4, t4⟩ := k1 W _ _ _ r3 t3
  exact k0 W _ { c with hidden := v } r4 t4 rfl
theorem crd_follows (h : CrdAt w b fp c) : ∃ m, w.cell? ⟨b, 14, none⟩ = some (.map (some m)) ∧ m ≠ b ∧ m ∈ fp ∧ Mp (twK linkT) boolV w m c.follows ∧ ∀ (W : World) (v : List (Twt × Bool)), Mp (twK linkT) boolV W m v → Keeps (fun g => g ≠ m) w W → ∃ fp', CrdAt W b fp' { c with follows := v } ∧ Turned fp fp' w W := by
  obtain ⟨x, f, hb, h0, s0, n0, _, _, k0, _⟩ := BoxAt.focus h
  obtain ⟨f1, h1, s1, k1⟩ := PairAt.focus2 h0
  obtain ⟨f2, h2, s2, k2⟩ := PairAt.focus2 h1
  obtain ⟨f3, h3, s3, k3⟩ := PairAt.focus2 h2
  obtain ⟨f4, h4, s4, k4⟩ := PairAt.focus2 h3
  obtain ⟨f5, h5, s5, k5⟩ := PairAt.focus1 h4
  obtain ⟨hm, rfl⟩ := h5
  refine ⟨_, blk_cell hb 14 rfl, fun e => n0 (e ▸ s1 _ (s2 _ (s3 _ (s4 _ (s5 _ (by simp)))))), s0 _ (s1 _ (s2 _ (s3 _ (s4 _ (s5 _ (by simp)))))), hm, fun W v hv hk => ?_⟩
  obtain ⟨_, r1, t1⟩ := k5 W _ _ v ⟨hv, rfl⟩ (mp_turned hk)
  obtain ⟨_, r2, t2⟩ := k4 W _ _ _ r1 t1
  obtain ⟨_, r3, t3⟩ := k3 W _ _ _ r2 t2
  obtain ⟨_, r4, t4⟩ := k2 W _ _ _ r3 t3
  obtain ⟨_, r5, t5⟩ := k1 W _ _ _ r4 t4
  exact k0 W _ { c with follows := v } r5 t5 rfl
theorem crd_mutes (h : CrdAt w b fp c) : ∃ m, w.cell? ⟨b, 15, none⟩ = some (.map (some m)) ∧ m ≠ b ∧ m ∈ fp ∧ Mp (twK linkT) boolV w m c.mutes ∧ ∀ (W : World) (v : List (Twt × Bool)), Mp (twK linkT) boolV W m v → Keeps (fun g => g ≠ m) w W → ∃ fp', CrdAt W b fp' { c with mutes := v } ∧ Turned fp fp' w W := by
  obtain ⟨x, f, hb, h0, s0, n0, _, _, k0, _⟩ := BoxAt.focus h
  obtain ⟨f1, h1, s1, k1⟩ := PairAt.focus2 h0
  obtain ⟨f2, h2, s2, k2⟩ := PairAt.focus2 h1
  obtain ⟨f3, h3, s3, k3⟩ := PairAt.focus2 h2
  obtain ⟨f4, h4, s4, k4⟩ := PairAt.focus2 h3
  obtain ⟨f5, h5, s5, k5⟩ := PairAt.focus2 h4
  obtain ⟨f6, h6, s6, k6⟩ := PairAt.focus1 h5
  obtain ⟨hm, rfl⟩ := h6
  refine ⟨_, blk_cell hb 15 rfl, fun e => n0 (e ▸ s1 _ (s2 _ (s3 _ (s4 _ (s5 _ (s6 _ (by simp))))))), s0 _ (s1 _ (s2 _ (s3 _ (s4 _ (s5 _ (s6 _ (by simp))))))), hm, fun W v hv hk => ?_⟩
  obtain ⟨_, r1, t1⟩ := k6 W _ _ v ⟨hv, rfl⟩ (mp_turned hk)
  obtain ⟨_, r2, t2⟩ := k5 W _ _ _ r1 t1
  obtain ⟨_, r3, t3⟩ := k4 W _ _ _ r2 t2
  obtain ⟨_, r4, t4⟩ := k3 W _ _ _ r3 t3
  obtain ⟨_, r5, t5⟩ := k2 W _ _ _ r4 t4
  obtain ⟨_, r6, t6⟩ := k1 W _ _ _ r5 t5
  exact k0 W _ { c with mutes := v } r6 t6 rfl
theorem crd_liked (h : CrdAt w b fp c) : ∃ m, w.cell? ⟨b, 16, none⟩ = some (.map (some m)) ∧ m ≠ b ∧ m ∈ fp ∧ Mp (twK linkT) boolV w m c.liked ∧ ∀ (W : World) (v : List (Twt × Bool)), Mp (twK linkT) boolV W m v → Keeps (fun g => g ≠ m) w W → ∃ fp', CrdAt W b fp' { c with liked := v } ∧ Turned fp fp' w W := by
  obtain ⟨x, f, hb, h0, s0, n0, _, _, k0, _⟩ := BoxAt.focus h
  obtain ⟨f1, h1, s1, k1⟩ := PairAt.focus2 h0
  obtain ⟨f2, h2, s2, k2⟩ := PairAt.focus2 h1
  obtain ⟨f3, h3, s3, k3⟩ := PairAt.focus2 h2
  obtain ⟨f4, h4, s4, k4⟩ := PairAt.focus2 h3
  obtain ⟨f5, h5, s5, k5⟩ := PairAt.focus2 h4
  obtain ⟨f6, h6, s6, k6⟩ := PairAt.focus2 h5
  obtain ⟨f7, h7, s7, k7⟩ := PairAt.focus1 h6
  obtain ⟨hm, rfl⟩ := h7
  refine ⟨_, blk_cell hb 16 rfl, fun e => n0 (e ▸ s1 _ (s2 _ (s3 _ (s4 _ (s5 _ (s6 _ (s7 _ (by simp)))))))), s0 _ (s1 _ (s2 _ (s3 _ (s4 _ (s5 _ (s6 _ (s7 _ (by simp)))))))), hm, fun W v hv hk => ?_⟩
  obtain ⟨_, r1, t1⟩ := k7 W _ _ v ⟨hv, rfl⟩ (mp_turned hk)
  obtain ⟨_, r2, t2⟩ := k6 W _ _ _ r1 t1
  obtain ⟨_, r3, t3⟩ := k5 W _ _ _ r2 t2
  obtain ⟨_, r4, t4⟩ := k4 W _ _ _ r3 t3
  obtain ⟨_, r5, t5⟩ := k3 W _ _ _ r4 t4
  obtain ⟨_, r6, t6⟩ := k2 W _ _ _ r5 t5
  obtain ⟨_, r7, t7⟩ := k1 W _ _ _ r6 t6
  exact k0 W _ { c with liked := v } r7 t7 rfl
theorem crd_fans (h : CrdAt w b fp c) : ∃ m, w.cell? ⟨b, 17, none⟩ = some (.map (some m)) ∧ m ≠ b ∧ m ∈ fp ∧ Mp (strK (P := Tryz.prog) (kt := 9) Tryz.underlying9) intV w m c.fans ∧ ∀ (W : World) (v : List (ByteArray × Int)), Mp (strK (P := Tryz.prog) (kt := 9) Tryz.underlying9) intV W m v → Keeps (fun g => g ≠ m) w W → ∃ fp', CrdAt W b fp' { c with fans := v } ∧ Turned fp fp' w W := by
  obtain ⟨x, f, hb, h0, s0, n0, _, _, k0, _⟩ := BoxAt.focus h
  obtain ⟨f1, h1, s1, k1⟩ := PairAt.focus2 h0
  obtain ⟨f2, h2, s2, k2⟩ := PairAt.focus2 h1
  obtain ⟨f3, h3, s3, k3⟩ := PairAt.focus2 h2
  obtain ⟨f4, h4, s4, k4⟩ := PairAt.focus2 h3
  obtain ⟨f5, h5, s5, k5⟩ := PairAt.focus2 h4
  obtain ⟨f6, h6, s6, k6⟩ := PairAt.focus2 h5
  obtain ⟨f7, h7, s7, k7⟩ := PairAt.focus2 h6
  obtain ⟨hm, rfl⟩ := h7
  refine ⟨_, blk_cell hb 17 rfl, fun e => n0 (e ▸ s1 _ (s2 _ (s3 _ (s4 _ (s5 _ (s6 _ (s7 _ (by simp)))))))), s0 _ (s1 _ (s2 _ (s3 _ (s4 _ (s5 _ (s6 _ (s7 _ (by simp)))))))), hm, fun W v hv hk => ?_⟩
  obtain ⟨_, r1, t1⟩ := k7 W _ _ v ⟨hv, rfl⟩ (mp_turned hk)
  obtain ⟨_, r2, t2⟩ := k6 W _ _ _ r1 t1
  obtain ⟨_, r3, t3⟩ := k5 W _ _ _ r2 t2
  obtain ⟨_, r4, t4⟩ := k4 W _ _ _ r3 t3
  obtain ⟨_, r5, t5⟩ := k3 W _ _ _ r4 t4
  obtain ⟨_, r6, t6⟩ := k2 W _ _ _ r5 t5
  obtain ⟨_, r7, t7⟩ := k1 W _ _ _ r6 t6
  exact k0 W _ { c with fans := v } r7 t7 rfl
end
def cntL (l : List (Twt × Int)) (t : Twt) : Int := (getM (fun a b : Twt => a.1 == b.1 && a.2 == b.2) l t).getD 0
def setL (l : List (Twt × Bool)) (t : Twt) : Bool := (getM (fun a b : Twt => a.1 == b.1 && a.2 == b.2) l t).getD false
def fanL (l : List (ByteArray × Int)) (s : ByteArray) : Int := (getM (fun a b : ByteArray => a == b) l s).getD 0
/-- What changes to and fro, or is counted. -/
def crdKind (c : Crd) (e : Ev) : Crd :=
  if e.kind = 0 then { c with shown := putM (fun a b : Twt => a.1 == b.1 && a.2 == b.2) c.shown (e.person, e.item) (cntL c.shown (e.person, e.item) + 1) }
  else if e.kind = 2 ∨ e.kind = 3 then { c with did := putM (fun a b : Twt => a.1 == b.1 && a.2 == b.2) c.did (e.person, e.item) true }
  else if e.kind = 5 ∨ e.kind = 6 then { c with hidden := putM (fun a b : Twt => a.1 == b.1 && a.2 == b.2) c.hidden (e.person, e.item) (decide (e.kind = 5)) }
  else if e.kind = 7 ∨ e.kind = 8 then { c with follows := putM (fun a b : Twt => a.1 == b.1 && a.2 == b.2) c.follows (e.person, e.text) (decide (e.kind = 7)) }
  else if e.kind = 9 ∨ e.kind = 10 then { c with mutes := putM (fun a b : Twt => a.1 == b.1 && a.2 == b.2) c.mutes (e.person, e.text) (decide (e.kind = 9)) }
  else c
def crdLike (c : Crd) (e : Ev) : Crd :=
  if 0 < worthE e ∧ setL c.liked (e.person, e.item) = false then { c with liked := putM (fun a b : Twt => a.1 == b.1 && a.2 == b.2) c.liked (e.person, e.item) true, fans := putM (fun a b : ByteArray => a == b) c.fans e.item (fanL c.fans e.item + 1) } else c
def crdNote (c : Crd) (e : Ev) : Crd := crdLike (crdKind c e) e
section
variable {c : Crd} {e : Ev}
theorem kind_shown (h : e.kind = 0) : crdKind c e = { c with shown := putM (fun a b : Twt => a.1 == b.1 && a.2 == b.2) c.shown (e.person, e.item) (cntL c.shown (e.person, e.item) + 1) } := by unfold crdKind; rw [if_pos h]
theorem kind_did (h : e.kind = 2 ∨ e.kind = 3) : crdKind c e = { c with did := putM (fun a b : Twt => a.1 == b.1 && a.2 == b.2) c.did (e.person, e.item) true } := by unfold crdKind; rw [if_neg (by omega), if_pos h]
theorem kind_hidden {v : Bool} (h : e.kind = 5 ∨ e.kind = 6) (hv : decide (e.kind = 5) = v) : crdKind c e = { c with hidden := putM (fun a b : Twt => a.1 == b.1 && a.2 == b.2) c.hidden (e.person, e.item) v } := by unfold crdKind; rw [if_neg (by omega), if_neg (by omega), if_pos h, hv]
theorem kind_follows {v : Bool} (h : e.kind = 7 ∨ e.kind = 8) (hv : decide (e.kind = 7) = v) : crdKind c e = { c with follows := putM (fun a b : Twt => a.1 == b.1 && a.2 == b.2) c.follows (e.person, e.text) v } := by unfold crdKind; rw [if_neg (by omega), if_neg (by omega), if_neg (by omega), if_pos h, hv]
theorem kind_mutes {v : Bool} (h : e.kind = 9 ∨ e.kind = 10) (hv : decide (e.kind = 9) = v) : crdKind c e = { c with mutes := putM (fun a b : Twt => a.1 == b.1 && a.2 == b.2) c.mutes (e.person, e.text) v } := by unfold crdKind; rw [if_neg (by omega), if_neg (by omega), if_neg (by omega), if_neg (by omega), if_pos h, hv]
theorem kind_none (h : e.kind = 1 ∨ e.kind = 4) : crdKind c e = c := by unfold crdKind; rw [if_neg (by omega), if_neg (by omega), if_neg (by omega), if_neg (by omega), if_neg (by omega)]
end
theorem kind_liked (c : Crd) (e : Ev) : (crdKind c e).liked = c.liked ∧ (crdKind c e).fans = c.fans := by
  unfold crdKind
  repeat (first | exact ⟨rfl, rfl⟩ | split)
theorem zero_bo (w : World) : (zeroValue 4).run Tryz.prog w = .ok (boolV false) w := by kernel_rfl
theorem zero_in (w : World) : (zeroValue 3).run Tryz.prog w = .ok (intV 0) w := by kernel_rfl
set_option maxRecDepth 100000 in
set_option maxHeartbeats 8000000 in
theorem crd_note (b : Nat) (fp : List Nat) (c : Crd) (e : Ev) (w : World) (h : CrdAt w b fp c) (hk0 : 0 ≤ e.kind) (hk1 : e.kind ≤ 10) (hs0 : 0 ≤ cntL c.shown (e.person, e.item)) (hs1 : cntL c.shown (e.person, e.item) ≤ 1048576) (hf0 : 0 ≤ fanL c.fans e.item) (hf1 : fanL c.fans e.item ≤ 1048576) :
    Calls Tryz.prog 103 #[.pointer (some ⟨b, 0, none⟩), .agg #[.string e.src, .int .i64 e.num, .int .i64 e.tick, .int .i64 e.kind, .string e.person, .string e.item, .int .i64 e.value, .string e.text]] w fun r w' => r = .returned (.tuple #[]) ∧ ∃ fp', CrdAt w' b fp' (crdNote c e) ∧ Turned fp fp' w w' := by
  have Hc := Lib.hid h
  have hfl := (boxOb 139 crdC _ Crd.sub).lt h
  have Hfl := Lib.hid hfl
  obtain ⟨W0, hW0⟩ : ∃ W, W = w.alloc (.cells #[.string e.src, .int .i64 e.num, .int .i64 e.tick, .int .i64 e.kind, .string e.person, .string e.item, .int .i64 e.value, .string e.text] 30) := ⟨_, rfl⟩
  obtain ⟨g3, hg3⟩ : ∃ g, g = w.heap.size := ⟨_, rfl⟩
  have hgb0 : W0.heap[g3]? = some (.cells #[.string e.src, .int .i64 e.num, .int .i64 e.tick, .int .i64 e.kind, .string e.person, .string e.item, .int .i64 e.value, .string e.text] 30) := by rw [hW0, hg3]; exact blk_new _ _
  have Hx0 := Lib.hid (show Ext w W0 by rw [hW0]; exact (Keeps.refl _ _).alloc _)
  have Hgb0 := Lib.hid hgb0
  have c0 : W0.cell? ⟨g3, 0, none⟩ = some (.string e.src) := blk_cell hgb0 0 rfl
  have c3 : W0.cell? ⟨g3, 3, none⟩ = some (.int .i64 e.kind) := blk_cell hgb0 3 rfl
  have c4 : W0.cell? ⟨g3, 4, none⟩ = some (.string e.person) := blk_cell hgb0 4 rfl
  have c5 : W0.cell? ⟨g3, 5, none⟩ = some (.string e.item) := blk_cell hgb0 5 rfl
  have c7 : W0.cell? ⟨g3, 7, none⟩ = some (.string e.text) := blk_cell hgb0 7 rfl
  have Hg3 := Lib.hid hg3
  clear h hfl hgb0
  go_enter Tryz.func103, Tryz.ntmps103
  go_upto_region 1 with fail
  rw [← hW0, ← hg3]
  clear hW0 hg3
  go_cut [4, 5] (fun s4 s5 wx => ∃ g4 g5, s4 = .pointer (some ⟨g4, 0, none⟩) ∧ s5 = .pointer (some ⟨g5, 0, none⟩) ∧ wx.heap[g4]? = some (.cells #[.string e.person, .string e.item] 201) ∧ wx.heap[g5]? = some (.cells #[.string e.person, .string e.text] 201) ∧ W0.heap.size ≤ g4 ∧ W0.heap.size ≤ g5 ∧ Ext W0 wx)
  case first =>
    have Hc0 := Lib.hid (fun (w' : World) (hx : Keeps (fun g => g = g3) W0 w') => show w'.cell? ⟨g3, 4, none⟩ = some (.string e.person) ∧ w'.cell? ⟨g3, 5, none⟩ = some (.string e.item) ∧ w'.cell? ⟨g3, 7, none⟩ = some (.string e.text) from ⟨blk_cell (hx.blk Hgb0.out rfl) 4 rfl, blk_cell (hx.blk Hgb0.out rfl) 5 rfl, blk_cell (hx.blk Hgb0.out rfl) 7 rfl⟩)
    refine wp_region_held_drew (S := fun w' => w'.cell? ⟨g3, 4, none⟩ = some (.string e.person) ∧ w'.cell? ⟨g3, 5, none⟩ = some (.string e.item) ∧ w'.cell? ⟨g3, 7, none⟩ = some (.string e.text)) (by kernel_rfl) (by exact Hc0.out _ (by repeat (first | with_reducible exact Keeps.refl _ _ | with_reducible refine Keeps.drew ?_))) (fun hHeld => ?_)
    change wpAnyH _ _ _ _ _ _ #[false, false, false, false, false, false, false, false, false, false, false, false, false, false] _ _
    refine wpAnyH_take (i := 0) (oi := { dst := some 6, op := Go.Op.fieldAddr 30 (Go.Operand.tmp 3) 4, type := 0, pos := "crowd.go:81", after := #[], guard := none }) (v := ?_) rfl (by kernel_rfl) (by kernel_rfl) (by kernel_rfl) (fun _ _ _ h => h) (Or.inl ⟨by rfl, ?_⟩) hHeld ?_
    rotate_left
    · intro w hSw
      (try dsimp only at hSw)
      go_simp
      all_goals (with_reducible rfl)
    try simp only [Act.put, List.setIfInBounds_toArray, List.set_cons_zero, List.set_cons_succ]
    refine wpAnyH_take (i := 1) (oi := { dst := some 7, op := Go.Op.load 9 (Go.Operand.tmp 6), type := 9, pos := "crowd.go:81", after := #[{ on := 0, ground := Go.Ground.data }], guard := none }) (v := ?_) rfl (by kernel_rfl) (by kernel_rfl) (by kernel_rfl) (fun _ _ _ h => h) (Or.inl ⟨by rfl, ?_⟩) hHeld ?_
    rotate_left
    · intro w hSw
      (try dsimp only at hSw)
      go_simp
      all_goals (with_reducible rfl)
    try simp only [Act.put, List.setIfInBounds_toArray, List.set_cons_zero, List.set_cons_succ]
    refine wpAnyH_take (i := 2) (oi := { dst := some 8, op := Go.Op.fieldAddr 30 (Go.Operand.tmp 3) 5, type := 0, pos := "crowd.go:81", after := #[], guard := none }) (v := ?_) rfl (by kernel_rfl) (by kernel_rfl) (by kernel_rfl) (fun _ _ _ h => h) (Or.inl ⟨by rfl, ?_⟩) hHeld ?_
    rotate_left
    · intro w hSw
      (try dsimp only at hSw)
      go_simp
      all_goals (with_reducible rfl)
    try simp only [Act.put, List.setIfInBounds_toArray, List.set_cons_zero, List.set_cons_succ]
    refine wpAnyH_take (i := 3) (oi := { dst := some 9, op := Go.Op.load 9 (Go.Operand.tmp 8), type := 9, pos := "crowd.go:81", after := #[{ on := 2, ground := Go.Ground.data }], guard := none }) (v := ?_) rfl (by kernel_rfl) (by kernel_rfl) (by kernel_rfl) (fun _ _ _ h => h) (Or.inl ⟨by rfl, ?_⟩) hHeld ?_
    rotate_left
    · intro w hSw
      (try dsimp only at hSw)
      go_simp
      all_goals (with_reducible rfl)
    try simp only [Act.put, List.setIfInBounds_toArray, List.set_cons_zero, List.set_cons_succ]
    refine wpAnyH_take (i := 4) (oi := { dst := some 10, op := Go.Op.build 201 #[(0, Go.Operand.tmp 7), (1, Go.Operand.tmp 9)], type := 201, pos := "crowd.go:81", after := #[{ on := 1, ground := Go.Ground.data }, { on := 3, ground := Go.Ground.data }], guard := none }) (v := ?_) rfl (by kernel_rfl) (by kernel_rfl) (by kernel_rfl) (fun _ _ _ h => h) (Or.inl ⟨by rfl, ?_⟩) hHeld ?_
    rotate_left
    · intro w hSw
      (try dsimp only at hSw)
      go_simp
      all_goals (with_reducible rfl)
    try simp only [Act.put, List.setIfInBounds_toArray, List.set_cons_zero, List.set_cons_succ]
    refine wpAnyH_take (i := 5) (oi := { dst := some 11, op := Go.Op.fieldAddr 30 (Go.Operand.tmp 3) 4, type := 0, pos := "crowd.go:81", after := #[{ on := 12, ground := Go.Ground.gcOnly Go.Departure.lateStores }], guard := none }) (v := ?_) rfl (by kernel_rfl) (by kernel_rfl) (by kernel_rfl) (fun _ _ _ h => h) (Or.inl ⟨by rfl, ?_⟩) hHeld ?_
    rotate_left
    · intro w hSw
      (try dsimp only at hSw)
      go_simp
      all_goals (with_reducible rfl)
    try simp only [Act.put, List.setIfInBounds_toArray, List.set_cons_zero, List.set_cons_succ]
    refine wpAnyH_take (i := 6) (oi := { dst := some 12, op := Go.Op.load 9 (Go.Operand.tmp 11), type := 9, pos := "crowd.go:81", after := #[{ on := 5, ground := Go.Ground.data }, { on := 12, ground := Go.Ground.gcOnly Go.Departure.lateStores }], guard := none }) (v := ?_) rfl (by kernel_rfl) (by kernel_rfl) (by kernel_rfl) (fun _ _ _ h => h) (Or.inl ⟨by rfl, ?_⟩) hHeld ?_
    rotate_left
    · intro w hSw
      (try dsimp only at hSw)
      go_simp
      all_goals (with_reducible rfl)
    try simp only [Act.put, List.setIfInBounds_toArray, List.set_cons_zero, List.set_cons_succ]
    refine wpAnyH_take (i := 7) (oi := { dst := some 13, op := Go.Op.fieldAddr 30 (Go.Operand.tmp 3) 7, type := 0, pos := "crowd.go:81", after := #[{ on := 12, ground := Go.Ground.gcOnly Go.Departure.lateStores }], guard := none }) (v := ?_) rfl (by kernel_rfl) (by kernel_rfl) (by kernel_rfl) (fun _ _ _ h => h) (Or.inl ⟨by rfl, ?_⟩) hHeld ?_
    rotate_left
    · intro w hSw
      (try dsimp only at hSw)
      go_simp
      all_goals (with_reducible rfl)
    try simp only [Act.put, List.setIfInBounds_toArray, List.set_cons_zero, List.set_cons_succ]
    refine wpAnyH_take (i := 8) (oi := { dst := some 14, op := Go.Op.load 9 (Go.Operand.tmp 13), type := 9, pos := "crowd.go:81", after := #[{ on := 7, ground := Go.Ground.data }, { on := 12, ground := Go.Ground.gcOnly Go.Departure.lateStores }], guard := none }) (v := ?_) rfl (by kernel_rfl) (by kernel_rfl) (by kernel_rfl) (fun _ _ _ h => h) (Or.inl ⟨by rfl, ?_⟩) hHeld ?_
    rotate_left
    · intro w hSw
      (try dsimp only at hSw)
      go_simp
      all_goals (with_reducible rfl)
    try simp only [Act.put, List.setIfInBounds_toArray, List.set_cons_zero, List.set_cons_succ]
    refine wpAnyH_take (i := 9) (oi := { dst := some 15, op := Go.Op.build 201 #[(0, Go.Operand.tmp 12), (1, Go.Operand.tmp 14)], type := 201, pos := "crowd.go:81", after := #[{ on := 6, ground := Go.Ground.data }, { on := 8, ground := Go.Ground.data }, { on := 12, ground := Go.Ground.gcOnly Go.Departure.lateStores }], guard := none }) (v := ?_) rfl (by kernel_rfl) (by kernel_rfl) (by kernel_rfl) (fun _ _ _ h => h) (Or.inl ⟨by rfl, ?_⟩) hHeld ?_
    rotate_left
    · intro w hSw
      (try dsimp only at hSw)
      go_simp
      all_goals (with_reducible rfl)
    try simp only [Act.put, List.setIfInBounds_toArray, List.set_cons_zero, List.set_cons_succ]
    refine wpAnyH_ready (rs := [10, 11]) (by kernel_rfl) (by simp) ?_
    refine (AllReadyH.cons (o := { dst := some 4, op := Go.Op.alloc 201, type := 0, pos := "crowd.go:81", after := #[], guard := none }) rfl (fun K hK => ?_) (AllReadyH.cons (o := { dst := some 5, op := Go.Op.alloc 201, type := 0, pos := "crowd.go:81", after := #[], guard := none }) rfl (fun K hK => ?_) AllReadyH.nil))
    · go_simp
      refine hK.out _ _ (by exact Hc0.out _ (by repeat (first | with_reducible exact Keeps.refl _ _ | with_reducible exact Keeps.refl _ _ | with_reducible refine Keeps.drew ?_ | with_reducible refine Keeps.drewN ?_ _ | with_reducible refine Keeps.alloc ?_ _ | with_reducible refine Keeps.setCell ?_ (by first | (intro h; simp at h; done) | (intro _; simp; done) | (intro _; simp; omega) | (intro h; simp at h; omega)) _))) (fun hHeld => ?_)
      clear hK K
      try simp only [List.setIfInBounds_toArray, List.set_cons_zero, List.set_cons_succ]
      refine wpAnyH_ready (rs := [11]) (by kernel_rfl) (by simp) ?_
      refine (AllReadyH.cons (o := { dst := some 5, op := Go.Op.alloc 201, type := 0, pos := "crowd.go:81", after := #[], guard := none }) rfl (fun K hK => ?_) AllReadyH.nil)
      go_simp
      refine hK.out _ _ (by exact Hc0.out _ (by repeat (first | with_reducible exact Keeps.refl _ _ | with_reducible exact Keeps.refl _ _ | with_reducible refine Keeps.drew ?_ | with_reducible refine Keeps.drewN ?_ _ | with_reducible refine Keeps.alloc ?_ _ | with_reducible refine Keeps.setCell ?_ (by first | (intro h; simp at h; done) | (intro _; simp; done) | (intro _; simp; omega) | (intro h; simp at h; omega)) _))) (fun hHeld => ?_)
      clear hK K
      try simp only [List.setIfInBounds_toArray, List.set_cons_zero, List.set_cons_succ]
      refine wpAnyH_ready (rs := [12]) (by kernel_rfl) (by simp) ?_
      refine (AllReadyH.cons (o := { dst := none, op := Go.Op.store 201 (Go.Operand.tmp 4) (Go.Operand.tmp 10), type := 0, pos := "crowd.go:81", after := #[{ on := 10, ground := Go.Ground.data }, { on := 4, ground := Go.Ground.data }, { on := 0, ground := Go.Ground.phase }, { on := 1, ground := Go.Ground.phase }, { on := 2, ground := Go.Ground.phase }, { on := 3, ground := Go.Ground.phase }, { on := 4, ground := Go.Ground.phase }, { on := 5, ground := Go.Ground.textOnly Go.Departure.lateStores }, { on := 6, ground := Go.Ground.textOnly Go.Departure.lateStores }, { on := 7, ground := Go.Ground.textOnly Go.Departure.lateStores }, { on := 8, ground := Go.Ground.textOnly Go.Departure.lateStores }, { on := 9, ground := Go.Ground.textOnly Go.Departure.lateStores }, { on := 10, ground := Go.Ground.phase }, { on := 11, ground := Go.Ground.phase }], guard := none }) rfl (fun K hK => ?_) AllReadyH.nil)
      go_simp
      refine hK.out _ _ (by exact Hc0.out _ (by repeat (first | with_reducible exact Keeps.refl _ _ | with_reducible exact Keeps.refl _ _ | with_reducible refine Keeps.drew ?_ | with_reducible refine Keeps.drewN ?_ _ | with_reducible refine Keeps.alloc ?_ _ | with_reducible refine Keeps.setCell ?_ (by first | (intro h; simp at h; done) | (intro _; simp; done) | (intro _; simp; omega) | (intro h; simp at h; omega)) _))) (fun hHeld => ?_)
      clear hK K
      try simp only [List.setIfInBounds_toArray, List.set_cons_zero, List.set_cons_succ]
      refine wpAnyH_ready (rs := [13]) (by kernel_rfl) (by simp) ?_
      refine (AllReadyH.cons (o := { dst := none, op := Go.Op.store 201 (Go.Operand.tmp 5) (Go.Operand.tmp 15), type := 0, pos := "crowd.go:81", after := #[{ on := 11, ground := Go.Ground.data }, { on := 9, ground := Go.Ground.data }, { on := 12, ground := Go.Ground.chain }, { on := 0, ground := Go.Ground.phase }, { on := 1, ground := Go.Ground.phase }, { on := 2, ground := Go.Ground.phase }, { on := 3, ground := Go.Ground.phase }, { on := 4, ground := Go.Ground.phase }, { on := 5, ground := Go.Ground.phase }, { on := 6, ground := Go.Ground.phase }, { on := 7, ground := Go.Ground.phase }, { on := 8, ground := Go.Ground.phase }, { on := 9, ground := Go.Ground.phase }, { on := 10, ground := Go.Ground.phase }, { on := 11, ground := Go.Ground.phase }, { on := 12, ground := Go.Ground.phase }], guard := none }) rfl (fun K hK => ?_) AllReadyH.nil)
      go_simp
      refine hK.out _ _ (by exact Hc0.out _ (by repeat (first | with_reducible exact Keeps.refl _ _ | with_reducible exact Keeps.refl _ _ | with_reducible refine Keeps.drew ?_ | with_reducible refine Keeps.drewN ?_ _ | with_reducible refine Keeps.alloc ?_ _ | with_reducible refine Keeps.setCell ?_ (by first | (intro h; simp at h; done) | (intro _; simp; done) | (intro _; simp; omega) | (intro h; simp at h; omega)) _))) (fun hHeld => ?_)
      clear hK K
      try simp only [List.setIfInBounds_toArray, List.set_cons_zero, List.set_cons_succ]
      refine wpAnyH_done (by kernel_rfl) ?_ _
      go_wp2_with fail
      go_meet
      exact ⟨_, _, rfl, rfl, (by first | exact blk_old (blk_new _ _) _ | exact blk_at _ _ (by simp)), (by first | exact blk_old (blk_new _ _) _ | exact blk_at _ _ (by simp)), (by omega), (by omega), (by repeat (first | with_reducible exact Keeps.refl _ _ | with_reducible refine Keeps.drew ?_ | with_reducible refine Keeps.drewN ?_ _ | with_reducible refine Keeps.alloc ?_ _))⟩
    · go_simp
      refine hK.out _ _ (by exact Hc0.out _ (by repeat (first | with_reducible exact Keeps.refl _ _ | with_reducible exact Keeps.refl _ _ | with_reducible refine Keeps.drew ?_ | with_reducible refine Keeps.drewN ?_ _ | with_reducible refine Keeps.alloc ?_ _ | with_reducible refine Keeps.setCell ?_ (by first | (intro h; simp at h; done) | (intro _; simp; done) | (intro _; simp; omega) | (intro h; simp at h; omega)) _))) (fun hHeld => ?_)
      clear hK K
      try simp only [List.setIfInBounds_toArray, List.set_cons_zero, List.set_cons_succ]
      refine wpAnyH_ready (rs := [10]) (by kernel_rfl) (by simp) ?_
      refine (AllReadyH.cons (o := { dst := some 4, op := Go.Op.alloc 201, type := 0, pos := "crowd.go:81", after := #[], guard := none }) rfl (fun K hK => ?_) AllReadyH.nil)
      go_simp
      refine hK.out _ _ (by exact Hc0.out _ (by repeat (first | with_reducible exact Keeps.refl _ _ | with_reducible exact Keeps.refl _ _ | with_reducible refine Keeps.drew ?_ | with_reducible refine Keeps.drewN ?_ _ | with_reducible refine Keeps.alloc ?_ _ | with_reducible refine Keeps.setCell ?_ (by first | (intro h; simp at h; done) | (intro _; simp; done) | (intro _; simp; omega) | (intro h; simp at h; omega)) _))) (fun hHeld => ?_)
      clear hK K
      try simp only [List.setIfInBounds_toArray, List.set_cons_zero, List.set_cons_succ]
      refine wpAnyH_ready (rs := [12]) (by kernel_rfl) (by simp) ?_
      refine (AllReadyH.cons (o := { dst := none, op := Go.Op.store 201 (Go.Operand.tmp 4) (Go.Operand.tmp 10), type := 0, pos := "crowd.go:81", after := #[{ on := 10, ground := Go.Ground.data }, { on := 4, ground := Go.Ground.data }, { on := 0, ground := Go.Ground.phase }, { on := 1, ground := Go.Ground.phase }, { on := 2, ground := Go.Ground.phase }, { on := 3, ground := Go.Ground.phase }, { on := 4, ground := Go.Ground.phase }, { on := 5, ground := Go.Ground.textOnly Go.Departure.lateStores }, { on := 6, ground := Go.Ground.textOnly Go.Departure.lateStores }, { on := 7, ground := Go.Ground.textOnly Go.Departure.lateStores }, { on := 8, ground := Go.Ground.textOnly Go.Departure.lateStores }, { on := 9, ground := Go.Ground.textOnly Go.Departure.lateStores }, { on := 10, ground := Go.Ground.phase }, { on := 11, ground := Go.Ground.phase }], guard := none }) rfl (fun K hK => ?_) AllReadyH.nil)
      go_simp
      refine hK.out _ _ (by exact Hc0.out _ (by repeat (first | with_reducible exact Keeps.refl _ _ | with_reducible exact Keeps.refl _ _ | with_reducible refine Keeps.drew ?_ | with_reducible refine Keeps.drewN ?_ _ | with_reducible refine Keeps.alloc ?_ _ | with_reducible refine Keeps.setCell ?_ (by first | (intro h; simp at h; done) | (intro _; simp; done) | (intro _; simp; omega) | (intro h; simp at h; omega)) _))) (fun hHeld => ?_)
      clear hK K
      try simp only [List.setIfInBounds_toArray, List.set_cons_zero, List.set_cons_succ]
      refine wpAnyH_ready (rs := [13]) (by kernel_rfl) (by simp) ?_
      refine (AllReadyH.cons (o := { dst := none, op := Go.Op.store 201 (Go.Operand.tmp 5) (Go.Operand.tmp 15), type := 0, pos := "crowd.go:81", after := #[{ on := 11, ground := Go.Ground.data }, { on := 9, ground := Go.Ground.data }, { on := 12, ground := Go.Ground.chain }, { on := 0, ground := Go.Ground.phase }, { on := 1, ground := Go.Ground.phase }, { on := 2, ground := Go.Ground.phase }, { on := 3, ground := Go.Ground.phase }, { on := 4, ground := Go.Ground.phase }, { on := 5, ground := Go.Ground.phase }, { on := 6, ground := Go.Ground.phase }, { on := 7, ground := Go.Ground.phase }, { on := 8, ground := Go.Ground.phase }, { on := 9, ground := Go.Ground.phase }, { on := 10, ground := Go.Ground.phase }, { on := 11, ground := Go.Ground.phase }, { on := 12, ground := Go.Ground.phase }], guard := none }) rfl (fun K hK => ?_) AllReadyH.nil)
      go_simp
      refine hK.out _ _ (by exact Hc0.out _ (by repeat (first | with_reducible exact Keeps.refl _ _ | with_reducible exact Keeps.refl _ _ | with_reducible refine Keeps.drew ?_ | with_reducible refine Keeps.drewN ?_ _ | with_reducible refine Keeps.alloc ?_ _ | with_reducible refine Keeps.setCell ?_ (by first | (intro h; simp at h; done) | (intro _; simp; done) | (intro _; simp; omega) | (intro h; simp at h; omega)) _))) (fun hHeld => ?_)
      clear hK K
      try simp only [List.setIfInBounds_toArray, List.set_cons_zero, List.set_cons_succ]
      refine wpAnyH_done (by kernel_rfl) ?_ _
      go_wp2_with fail
      go_meet
      exact ⟨_, _, rfl, rfl, (by first | exact blk_old (blk_new _ _) _ | exact blk_at _ _ (by simp)), (by first | exact blk_old (blk_new _ _) _ | exact blk_at _ _ (by simp)), (by omega), (by omega), (by repeat (first | with_reducible exact Keeps.refl _ _ | with_reducible refine Keeps.drew ?_ | with_reducible refine Keeps.drewN ?_ _ | with_reducible refine Keeps.alloc ?_ _))⟩
  case rest =>
    obtain ⟨g4, g5, hv4, hv5, h4, h5, hl4, hl5, hxX⟩ := hcut
    subst hv4 hv5
    obtain ⟨X, hX⟩ : ∃ X, X = wc := ⟨_, rfl⟩
    rw [← hX] at h4 h5 hxX ⊢
    clear hX
    have h3 := hxX.blk Hgb0.out
    have hwX := Hx0.out.trans hxX
    have HcX := Lib.hid (Hc.out.ext hwX)
    have hgw3 : w.heap.size ≤ g3 := by rw [Hg3.out]; exact Nat.le_refl _
    have hgw4 : w.heap.size ≤ g4 := Nat.le_trans Hx0.out.size hl4
    have hgw5 : w.heap.size ≤ g5 := Nat.le_trans Hx0.out.size hl5
    have hbfp : b ∈ fp := (BoxAt.focus Hc.out).choose_spec.choose_spec.2.2.2.2.1
    have hbw : b < w.heap.size := Hfl.out b hbfp
    have H3 := Lib.hid h3
    have H4 := Lib.hid h4
    have H5 := Lib.hid h5
    have HwX := Lib.hid hwX
    clear c0 c3 c4 c5 c7 h3 h4 h5 hxX hwX hl4 hl5
    obtain ⟨kd, hkd⟩ : ∃ k, k = e.kind := ⟨_, rfl⟩
    have c3 : X.cell? ⟨g3, 3, none⟩ = some (.int .i64 kd) := by rw [hkd]; exact blk_cell H3.out 3 rfl
    have HkdE := Lib.hid hkd
    rw [← hkd] at hk0 hk1
    have hbX : b < X.heap.size := Nat.lt_of_lt_of_le hbw HwX.out.size
    clear hkd
    go_upto_block 0 with fail
    go_cut [] (fun wx => (∃ fp1, CrdAt wx b fp1 (crdKind c e) ∧ Turned fp fp1 X wx) ∧ wx.heap[g3]? = some (.cells #[.string e.src, .int .i64 e.num, .int .i64 e.tick, .int .i64 e.kind, .string e.person, .string e.item, .int .i64 e.value, .string e.text] 30) ∧ wx.heap[g4]? = some (.cells #[.string e.person, .string e.item] 201))
    case first =>
      have hkk : kd = 0 ∨ (kd = 1 ∨ kd = 4) ∨ kd = 2 ∨ kd = 3 ∨ kd = 5 ∨ kd = 6 ∨ kd = 7 ∨ kd = 8 ∨ kd = 9 ∨ kd = 10 := by omega
      rcases hkk with hq | hq | hq | hq | hq | hq | hq | hq | hq | hq
      · obtain rfl : kd = 0 := hq
        obtain ⟨m, qm, hmb, hmf, hmp, hback⟩ := crd_shown (HcX.out.ext ((Keeps.refl _ _).drew))
        obtain ⟨cn, hcn⟩ : ∃ cn, cn = cntL c.shown (e.person, e.item) := ⟨_, rfl⟩
        rw [← hcn] at hs0 hs1
        obtain ⟨W1, st, PE, ⟨l1, hml1, hget⟩, hkE, _, hstore⟩ := hmp.entry Tryz.underlying136 (z := 0) zero_in (e.person, e.item)
        obtain ⟨W2, PS, hm2, hk2, _⟩ := hstore W1 (IntKind.i64.wrap (cn + 1)) rfl
        have PE' : (Instr.mapEntry 136 (.map (some m)) (.agg #[.string e.person, .string e.item])).run Tryz.prog X.drew = .ok (.tuple #[.int .i64 cn, .int .i64 (st : Int)]) W1 := by rw [hcn]; exact PE
        have PS' : (Instr.entryStore 136 (.map (some m)) (.int .i64 (st : Int)) (.int .i64 (IntKind.i64.wrap (cn + 1)))).run Tryz.prog W1 = .ok () W2 := PS
        have L0 : (Instr.lookup 136 (.map (some m)) (.agg #[.string e.person, .string e.item]) false).run Tryz.prog X.drew = .ok (.int .i64 cn) X.drew := by rw [hcn]; exact hmp.look1 Tryz.underlying136 (zero_in _) (e.person, e.item)
        have L1 : (Instr.lookup 136 (.map (some m)) (.agg #[.string e.person, .string e.item]) false).run Tryz.prog W1 = .ok (.int .i64 cn) W1 := by rw [hcn]; have h9 := hml1.look1 Tryz.underlying136 (zero_in W1) (e.person, e.item); rw [hget] at h9; exact h9
        have hk12 : Keeps (fun g => g ≠ m) X.drew W2 := hkE.then_ hk2 (fun _ _ h => h)
        obtain ⟨fp1, hc1, ht1⟩ := hback W2 _ hm2 hk12
        have hmw := Hfl.out m hmf
        have hkx1 : Keeps (fun g => g ≠ m) X W1 := ⟨hkE.os, hkE.tape, hkE.output, hkE.size, hkE.block⟩
        have hkx : Keeps (fun g => g ≠ m) X W2 := ⟨hk12.os, hk12.tape, hk12.output, hk12.size, hk12.block⟩
        have Hfin := Lib.hid (show (∃ fp1, CrdAt W2 b fp1 (crdKind c e) ∧ Turned fp fp1 X W2) ∧ W2.heap[g3]? = some (.cells #[.string e.src, .int .i64 e.num, .int .i64 e.tick, .int .i64 e.kind, .string e.person, .string e.item, .int .i64 e.value, .string e.text] 30) ∧ W2.heap[g4]? = some (.cells #[.string e.person, .string e.item] 201) from ⟨⟨fp1, by rw [kind_shown HkdE.out.symm, ← hcn, ← IntWalk.i64_in (cn + 1) (by omega)]; exact hc1, (Turned.of_ext ((Keeps.refl _ _).drew)).trans ht1⟩, hkx.blk H3.out (by omega), hkx.blk H4.out (by omega)⟩)
        have HS := Lib.hid (fun (w' : World) (hk : Keeps (fun g => g = b ∨ g = g3 ∨ g = g4) X w') => show w'.cell? ⟨b, 12, none⟩ = some (.map (some m)) ∧ w'.cell? ⟨g4, 0, none⟩ = some (.string e.person) ∧ w'.cell? ⟨g4, 1, none⟩ = some (.string e.item) from ⟨(hk.cell (p := ⟨b, 12, none⟩) hbX (.inl rfl)).trans qm, blk_cell (hk.blk H4.out (.inr (.inr rfl))) 0 rfl, blk_cell (hk.blk H4.out (.inr (.inr rfl))) 1 rfl⟩)
        have Hk1 := Lib.hid (show Keeps (fun g => g = b ∨ g = g3 ∨ g = g4) X W1 from hkx1.mono (fun g _ hg => by rcases hg with rfl | rfl | rfl; exact hmb.symm; omega; omega))
        have Hk2 := Lib.hid (show Keeps (fun g => g = b ∨ g = g3 ∨ g = g4) X W2 from hkx.mono (fun g _ hg => by rcases hg with rfl | rfl | rfl; exact hmb.symm; omega; omega))
        clear PE PS hm2 hk2 hc1 ht1 hback hmp qm hkx hkx1 hk12 hkE hstore hml1 hget hcn
        go_upto_region 4 with fail
        refine wp_region_held_drew (S := fun w' => w'.cell? ⟨b, 12, none⟩ = some (.map (some m)) ∧ w'.cell? ⟨g4, 0, none⟩ = some (.string e.person) ∧ w'.cell? ⟨g4, 1, none⟩ = some (.string e.item)) (by kernel_rfl) (by exact HS.out X.drew ((Keeps.refl _ _).drew)) (fun hHeld => ?_)
        change wpAnyH _ _ _ _ _ _ #[false, false, false, false, false, false, false, false, false, false] _ _
        refine wpAnyH_take (i := 0) (oi := { dst := some 20, op := Go.Op.move (Go.Operand.tmp 0), type := 55, pos := "crowd.go:84", after := #[], guard := none }) (v := ?_) rfl (by kernel_rfl) (by kernel_rfl) (by kernel_rfl) (fun _ _ _ h => h) (Or.inl ⟨by rfl, ?_⟩) hHeld ?_
        rotate_left
        · intro w hSw
          (try dsimp only at hSw)
          go_simp
          all_goals (with_reducible rfl)
        try simp only [Act.put, List.setIfInBounds_toArray, List.set_cons_zero, List.set_cons_succ]
        refine wpAnyH_take (i := 1) (oi := { dst := some 21, op := Go.Op.nilCheck (Go.Operand.tmp 20), type := 0, pos := "crowd.go:84", after := #[{ on := 0, ground := Go.Ground.data }], guard := none }) (v := ?_) rfl (by kernel_rfl) (by kernel_rfl) (by kernel_rfl) (fun _ _ _ h => h) (Or.inl ⟨by rfl, ?_⟩) hHeld ?_
        rotate_left
        · intro w hSw
          (try dsimp only at hSw)
          go_simp
          all_goals (with_reducible rfl)
        try simp only [Act.put, List.setIfInBounds_toArray, List.set_cons_zero, List.set_cons_succ]
        refine wpAnyH_take (i := 2) (oi := { dst := some 22, op := Go.Op.fieldAddr 139 (Go.Operand.tmp 21) 5, type := 0, pos := "crowd.go:84", after := #[{ on := 1, ground := Go.Ground.data }], guard := none }) (v := ?_) rfl (by kernel_rfl) (by kernel_rfl) (by kernel_rfl) (fun _ _ _ h => h) (Or.inl ⟨by rfl, ?_⟩) hHeld ?_
        rotate_left
        · intro w hSw
          (try dsimp only at hSw)
          go_simp
          all_goals (with_reducible rfl)
        try simp only [Act.put, List.setIfInBounds_toArray, List.set_cons_zero, List.set_cons_succ]
        refine wpAnyH_take (i := 3) (oi := { dst := some 23, op := Go.Op.load 136 (Go.Operand.tmp 22), type := 136, pos := "crowd.go:84", after := #[{ on := 2, ground := Go.Ground.data }], guard := none }) (v := ?_) rfl (by kernel_rfl) (by kernel_rfl) (by kernel_rfl) (fun _ _ _ h => h) (Or.inl ⟨by rfl, ?_⟩) hHeld ?_
        rotate_left
        · intro w hSw
          (try dsimp only at hSw)
          go_simp
          all_goals (with_reducible rfl)
        try simp only [Act.put, List.setIfInBounds_toArray, List.set_cons_zero, List.set_cons_succ]
        refine wpAnyH_take (i := 4) (oi := { dst := some 24, op := Go.Op.load 201 (Go.Operand.tmp 4), type := 201, pos := "crowd.go:84", after := #[], guard := none }) (v := ?_) rfl (by kernel_rfl) (by kernel_rfl) (by kernel_rfl) (fun _ _ _ h => h) (Or.inl ⟨by rfl, ?_⟩) hHeld ?_
        rotate_left
        · intro w hSw
          (try dsimp only at hSw)
          go_simp
          all_goals (with_reducible rfl)
        try simp only [Act.put, List.setIfInBounds_toArray, List.set_cons_zero, List.set_cons_succ]
        refine meet_ (G := ?G) (fun hMeet => ?main) ?last
        case main =>
          refine wpAnyH_ready (rs := [5, 7]) (by kernel_rfl) (by simp) ?_
          refine (AllReadyH.cons (o := { dst := some 25, op := Go.Op.lookup 136 (Go.Operand.tmp 23) (Go.Operand.tmp 24) false, type := 3, pos := "crowd.go:84", after := #[{ on := 3, ground := Go.Ground.data }, { on := 4, ground := Go.Ground.data }], guard := none }) rfl (fun K hK => ?_) (AllReadyH.cons (o := { dst := some 27, op := Go.Op.mapEntry 136 (Go.Operand.tmp 23) (Go.Operand.tmp 24), type := 0, pos := "crowd.go:84", after := #[{ on := 3, ground := Go.Ground.data }, { on := 4, ground := Go.Ground.data }, { on := 0, ground := Go.Ground.phase }, { on := 1, ground := Go.Ground.phase }, { on := 2, ground := Go.Ground.phase }, { on := 3, ground := Go.Ground.phase }, { on := 4, ground := Go.Ground.phase }, { on := 5, ground := Go.Ground.textOnly Go.Departure.mapOpAssignEntry }, { on := 6, ground := Go.Ground.textOnly Go.Departure.mapOpAssignEntry }], guard := none }) rfl (fun K hK => ?_) AllReadyH.nil))
          · go_simp
            refine hK.out _ _ (by first | exact HS.out _ Hk1.out | exact HS.out X.drew ((Keeps.refl _ _).drew)) (fun hHeld => ?_)
            clear hK K
            try simp only [List.setIfInBounds_toArray, List.set_cons_zero, List.set_cons_succ]
            refine wpAnyH_ready (rs := [6, 7]) (by kernel_rfl) (by simp) ?_
            refine (AllReadyH.cons (o := { dst := some 26, op := Go.Op.binOp Go.BinOp.add 3 (Go.Operand.tmp 25) (Go.Operand.const (Go.Value.int Go.IntKind.i64 1)) 3, type := 3, pos := "crowd.go:84", after := #[{ on := 5, ground := Go.Ground.data }], guard := none }) rfl (fun K hK => ?_) (AllReadyH.cons (o := { dst := some 27, op := Go.Op.mapEntry 136 (Go.Operand.tmp 23) (Go.Operand.tmp 24), type := 0, pos := "crowd.go:84", after := #[{ on := 3, ground := Go.Ground.data }, { on := 4, ground := Go.Ground.data }, { on := 0, ground := Go.Ground.phase }, { on := 1, ground := Go.Ground.phase }, { on := 2, ground := Go.Ground.phase }, { on := 3, ground := Go.Ground.phase }, { on := 4, ground := Go.Ground.phase }, { on := 5, ground := Go.Ground.textOnly Go.Departure.mapOpAssignEntry }, { on := 6, ground := Go.Ground.textOnly Go.Departure.mapOpAssignEntry }], guard := none }) rfl (fun K hK => ?_) AllReadyH.nil))
            · go_simp
              refine hK.out _ _ (by first | exact HS.out _ Hk1.out | exact HS.out X.drew ((Keeps.refl _ _).drew)) (fun hHeld => ?_)
              clear hK K
              try simp only [List.setIfInBounds_toArray, List.set_cons_zero, List.set_cons_succ]
              refine wpAnyH_ready (rs := [7]) (by kernel_rfl) (by simp) ?_
              refine (AllReadyH.cons (o := { dst := some 27, op := Go.Op.mapEntry 136 (Go.Operand.tmp 23) (Go.Operand.tmp 24), type := 0, pos := "crowd.go:84", after := #[{ on := 3, ground := Go.Ground.data }, { on := 4, ground := Go.Ground.data }, { on := 0, ground := Go.Ground.phase }, { on := 1, ground := Go.Ground.phase }, { on := 2, ground := Go.Ground.phase }, { on := 3, ground := Go.Ground.phase }, { on := 4, ground := Go.Ground.phase }, { on := 5, ground := Go.Ground.textOnly Go.Departure.mapOpAssignEntry }, { on := 6, ground := Go.Ground.textOnly Go.Departure.mapOpAssignEntry }], guard := none }) rfl (fun K hK => ?_) AllReadyH.nil)
              · go_simp
                refine hK.out _ _ (by first | exact HS.out _ Hk1.out | exact HS.out X.drew ((Keeps.refl _ _).drew)) (fun hHeld => ?_)
                clear hK K
                try simp only [List.setIfInBounds_toArray, List.set_cons_zero, List.set_cons_succ]
                refine wpAnyH_ready (rs := [8]) (by kernel_rfl) (by simp) ?_
                refine (AllReadyH.cons (o := { dst := some 28, op := Go.Op.extract (Go.Operand.tmp 27) 1, type := 3, pos := "crowd.go:84", after := #[{ on := 7, ground := Go.Ground.data }], guard := none }) rfl (fun K hK => ?_) AllReadyH.nil)
                · go_simp
                  refine hK.out _ _ (by first | exact HS.out _ Hk1.out | exact HS.out X.drew ((Keeps.refl _ _).drew)) (fun hHeld => ?_)
                  clear hK K
                  try simp only [List.setIfInBounds_toArray, List.set_cons_zero, List.set_cons_succ]
                  exact hMeet
            · go_simp
              refine hK.out _ _ (by first | exact HS.out _ Hk1.out | exact HS.out X.drew ((Keeps.refl _ _).drew)) (fun hHeld => ?_)
              clear hK K
              try simp only [List.setIfInBounds_toArray, List.set_cons_zero, List.set_cons_succ]
              refine wpAnyH_ready (rs := [6, 8]) (by kernel_rfl) (by simp) ?_
              refine (AllReadyH.cons (o := { dst := some 26, op := Go.Op.binOp Go.BinOp.add 3 (Go.Operand.tmp 25) (Go.Operand.const (Go.Value.int Go.IntKind.i64 1)) 3, type := 3, pos := "crowd.go:84", after := #[{ on := 5, ground := Go.Ground.data }], guard := none }) rfl (fun K hK => ?_) (AllReadyH.cons (o := { dst := some 28, op := Go.Op.extract (Go.Operand.tmp 27) 1, type := 3, pos := "crowd.go:84", after := #[{ on := 7, ground := Go.Ground.data }], guard := none }) rfl (fun K hK => ?_) AllReadyH.nil))
              · go_simp
                refine hK.out _ _ (by first | exact HS.out _ Hk1.out | exact HS.out X.drew ((Keeps.refl _ _).drew)) (fun hHeld => ?_)
                clear hK K
                try simp only [List.setIfInBounds_toArray, List.set_cons_zero, List.set_cons_succ]
                refine wpAnyH_ready (rs := [8]) (by kernel_rfl) (by simp) ?_
                refine (AllReadyH.cons (o := { dst := some 28, op := Go.Op.extract (Go.Operand.tmp 27) 1, type := 3, pos := "crowd.go:84", after := #[{ on := 7, ground := Go.Ground.data }], guard := none }) rfl (fun K hK => ?_) AllReadyH.nil)
                · go_simp
                  refine hK.out _ _ (by first | exact HS.out _ Hk1.out | exact HS.out X.drew ((Keeps.refl _ _).drew)) (fun hHeld => ?_)
                  clear hK K
                  try simp only [List.setIfInBounds_toArray, List.set_cons_zero, List.set_cons_succ]
                  exact hMeet
              · go_simp
                refine hK.out _ _ (by first | exact HS.out _ Hk1.out | exact HS.out X.drew ((Keeps.refl _ _).drew)) (fun hHeld => ?_)
                clear hK K
                try simp only [List.setIfInBounds_toArray, List.set_cons_zero, List.set_cons_succ]
                refine wpAnyH_ready (rs := [6]) (by kernel_rfl) (by simp) ?_
                refine (AllReadyH.cons (o := { dst := some 26, op := Go.Op.binOp Go.BinOp.add 3 (Go.Operand.tmp 25) (Go.Operand.const (Go.Value.int Go.IntKind.i64 1)) 3, type := 3, pos := "crowd.go:84", after := #[{ on := 5, ground := Go.Ground.data }], guard := none }) rfl (fun K hK => ?_) AllReadyH.nil)
                · go_simp
                  refine hK.out _ _ (by first | exact HS.out _ Hk1.out | exact HS.out X.drew ((Keeps.refl _ _).drew)) (fun hHeld => ?_)
                  clear hK K
                  try simp only [List.setIfInBounds_toArray, List.set_cons_zero, List.set_cons_succ]
                  exact hMeet
          · go_simp
            refine hK.out _ _ (by first | exact HS.out _ Hk1.out | exact HS.out X.drew ((Keeps.refl _ _).drew)) (fun hHeld => ?_)
            clear hK K
            try simp only [List.setIfInBounds_toArray, List.set_cons_zero, List.set_cons_succ]
            refine wpAnyH_ready (rs := [5, 8]) (by kernel_rfl) (by simp) ?_
            refine (AllReadyH.cons (o := { dst := some 25, op := Go.Op.lookup 136 (Go.Operand.tmp 23) (Go.Operand.tmp 24) false, type := 3, pos := "crowd.go:84", after := #[{ on := 3, ground := Go.Ground.data }, { on := 4, ground := Go.Ground.data }], guard := none }) rfl (fun K hK => ?_) (AllReadyH.cons (o := { dst := some 28, op := Go.Op.extract (Go.Operand.tmp 27) 1, type := 3, pos := "crowd.go:84", after := #[{ on := 7, ground := Go.Ground.data }], guard := none }) rfl (fun K hK => ?_) AllReadyH.nil))
            · go_simp
              refine hK.out _ _ (by first | exact HS.out _ Hk1.out | exact HS.out X.drew ((Keeps.refl _ _).drew)) (fun hHeld => ?_)
              clear hK K
              try simp only [List.setIfInBounds_toArray, List.set_cons_zero, List.set_cons_succ]
              refine wpAnyH_ready (rs := [6, 8]) (by kernel_rfl) (by simp) ?_
              refine (AllReadyH.cons (o := { dst := some 26, op := Go.Op.binOp Go.BinOp.add 3 (Go.Operand.tmp 25) (Go.Operand.const (Go.Value.int Go.IntKind.i64 1)) 3, type := 3, pos := "crowd.go:84", after := #[{ on := 5, ground := Go.Ground.data }], guard := none }) rfl (fun K hK => ?_) (AllReadyH.cons (o := { dst := some 28, op := Go.Op.extract (Go.Operand.tmp 27) 1, type := 3, pos := "crowd.go:84", after := #[{ on := 7, ground := Go.Ground.data }], guard := none }) rfl (fun K hK => ?_) AllReadyH.nil))
              · go_simp
                refine hK.out _ _ (by first | exact HS.out _ Hk1.out | exact HS.out X.drew ((Keeps.refl _ _).drew)) (fun hHeld => ?_)
                clear hK K
                try simp only [List.setIfInBounds_toArray, List.set_cons_zero, List.set_cons_succ]
                refine wpAnyH_ready (rs := [8]) (by kernel_rfl) (by simp) ?_
                refine (AllReadyH.cons (o := { dst := some 28, op := Go.Op.extract (Go.Operand.tmp 27) 1, type := 3, pos := "crowd.go:84", after := #[{ on := 7, ground := Go.Ground.data }], guard := none }) rfl (fun K hK => ?_) AllReadyH.nil)
                · go_simp
                  refine hK.out _ _ (by first | exact HS.out _ Hk1.out | exact HS.out X.drew ((Keeps.refl _ _).drew)) (fun hHeld => ?_)
                  clear hK K
                  try simp only [List.setIfInBounds_toArray, List.set_cons_zero, List.set_cons_succ]
                  exact hMeet
              · go_simp
                refine hK.out _ _ (by first | exact HS.out _ Hk1.out | exact HS.out X.drew ((Keeps.refl _ _).drew)) (fun hHeld => ?_)
                clear hK K
                try simp only [List.setIfInBounds_toArray, List.set_cons_zero, List.set_cons_succ]
                refine wpAnyH_ready (rs := [6]) (by kernel_rfl) (by simp) ?_
                refine (AllReadyH.cons (o := { dst := some 26, op := Go.Op.binOp Go.BinOp.add 3 (Go.Operand.tmp 25) (Go.Operand.const (Go.Value.int Go.IntKind.i64 1)) 3, type := 3, pos := "crowd.go:84", after := #[{ on := 5, ground := Go.Ground.data }], guard := none }) rfl (fun K hK => ?_) AllReadyH.nil)
                · go_simp
                  refine hK.out _ _ (by first | exact HS.out _ Hk1.out | exact HS.out X.drew ((Keeps.refl _ _).drew)) (fun hHeld => ?_)
                  clear hK K
                  try simp only [List.setIfInBounds_toArray, List.set_cons_zero, List.set_cons_succ]
                  exact hMeet
            · go_simp
              refine hK.out _ _ (by first | exact HS.out _ Hk1.out | exact HS.out X.drew ((Keeps.refl _ _).drew)) (fun hHeld => ?_)
              clear hK K
              try simp only [List.setIfInBounds_toArray, List.set_cons_zero, List.set_cons_succ]
              refine wpAnyH_ready (rs := [5]) (by kernel_rfl) (by simp) ?_
              refine (AllReadyH.cons (o := { dst := some 25, op := Go.Op.lookup 136 (Go.Operand.tmp 23) (Go.Operand.tmp 24) false, type := 3, pos := "crowd.go:84", after := #[{ on := 3, ground := Go.Ground.data }, { on := 4, ground := Go.Ground.data }], guard := none }) rfl (fun K hK => ?_) AllReadyH.nil)
              · go_simp
                refine hK.out _ _ (by first | exact HS.out _ Hk1.out | exact HS.out X.drew ((Keeps.refl _ _).drew)) (fun hHeld => ?_)
                clear hK K
                try simp only [List.setIfInBounds_toArray, List.set_cons_zero, List.set_cons_succ]
                refine wpAnyH_ready (rs := [6]) (by kernel_rfl) (by simp) ?_
                refine (AllReadyH.cons (o := { dst := some 26, op := Go.Op.binOp Go.BinOp.add 3 (Go.Operand.tmp 25) (Go.Operand.const (Go.Value.int Go.IntKind.i64 1)) 3, type := 3, pos := "crowd.go:84", after := #[{ on := 5, ground := Go.Ground.data }], guard := none }) rfl (fun K hK => ?_) AllReadyH.nil)
                · go_simp
                  refine hK.out _ _ (by first | exact HS.out _ Hk1.out | exact HS.out X.drew ((Keeps.refl _ _).drew)) (fun hHeld => ?_)
                  clear hK K
                  try simp only [List.setIfInBounds_toArray, List.set_cons_zero, List.set_cons_succ]
                  exact hMeet
        case last =>
          refine wpAnyH_ready (rs := [9]) (by kernel_rfl) (by simp) ?_
          refine (AllReadyH.cons (o := { dst := none, op := Go.Op.entryStore 136 (Go.Operand.tmp 23) (Go.Operand.tmp 28) (Go.Operand.tmp 26), type := 0, pos := "crowd.go:84", after := #[{ on := 3, ground := Go.Ground.data }, { on := 8, ground := Go.Ground.data }, { on := 6, ground := Go.Ground.data }, { on := 7, ground := Go.Ground.chain }, { on := 0, ground := Go.Ground.phase }, { on := 1, ground := Go.Ground.phase }, { on := 2, ground := Go.Ground.phase }, { on := 3, ground := Go.Ground.phase }, { on := 4, ground := Go.Ground.phase }, { on := 5, ground := Go.Ground.phase }, { on := 6, ground := Go.Ground.phase }, { on := 7, ground := Go.Ground.phase }, { on := 8, ground := Go.Ground.phase }], guard := none }) rfl (fun K hK => ?_) AllReadyH.nil)
          go_simp
          refine hK.out _ _ (by exact HS.out _ Hk2.out) (fun hHeld => ?_)
          clear hK K
          try simp only [List.setIfInBounds_toArray, List.set_cons_zero, List.set_cons_succ]
          refine wpAnyH_done (by kernel_rfl) ?_ _
          go_wp2_with fail
          go_meet
          exact Hfin.out
      · have Hfin := Lib.hid (show (∃ fp1, CrdAt X b fp1 (crdKind c e) ∧ Turned fp fp1 X X) ∧ X.heap[g3]? = some (.cells #[.string e.src, .int .i64 e.num, .int .i64 e.tick, .int .i64 e.kind, .string e.person, .string e.item, .int .i64 e.value, .string e.text] 30) ∧ X.heap[g4]? = some (.cells #[.string e.person, .string e.item] 201) from ⟨⟨fp, by rw [kind_none (by rw [← HkdE.out]; exact hq)]; exact HcX.out, Turned.refl _ _⟩, H3.out, H4.out⟩)
        rcases hq with rfl | rfl
        · go_wp2_with fail
          go_meet
          exact Hfin.out
        · go_wp2_with fail
          go_meet
          exact Hfin.out
      · obtain rfl : kd = 2 := by omega
        obtain ⟨m, qm, hmb, hmf, hmp, hback⟩ := crd_did (HcX.out.ext ((Keeps.refl _ _).drew))
        obtain ⟨W1, P1, hm1, hk1, _⟩ := hmp.put Tryz.underlying135 (e.person, e.item) true
        have P1' : (Instr.mapUpdate 135 (.map (some m)) (.agg #[.string e.person, .string e.item]) (.bool true)).run Tryz.prog X.drew = .ok () W1 := P1
        obtain ⟨fp1, hc1, ht1⟩ := hback W1 _ hm1 hk1
        have hmw := Hfl.out m hmf
        have hkx : Keeps (fun g => g ≠ m) X W1 := ⟨hk1.os, hk1.tape, hk1.output, hk1.size, hk1.block⟩
        have Hfin := Lib.hid (show (∃ fp1, CrdAt W1 b fp1 (crdKind c e) ∧ Turned fp fp1 X W1) ∧ W1.heap[g3]? = some (.cells #[.string e.src, .int .i64 e.num, .int .i64 e.tick, .int .i64 e.kind, .string e.person, .string e.item, .int .i64 e.value, .string e.text] 30) ∧ W1.heap[g4]? = some (.cells #[.string e.person, .string e.item] 201) from ⟨⟨fp1, by rw [kind_did (by rw [← HkdE.out]; decide)]; exact hc1, (Turned.of_ext ((Keeps.refl _ _).drew)).trans ht1⟩, hkx.blk H3.out (by omega), hkx.blk H4.out (by omega)⟩)
        have HS := Lib.hid (fun (w' : World) (hk : Keeps (fun g => g = b ∨ g = g3 ∨ g = g4) X w') => show w'.cell? ⟨b, 11, none⟩ = some (.map (some m)) ∧ w'.cell? ⟨g4, 0, none⟩ = some (.string e.person) ∧ w'.cell? ⟨g4, 1, none⟩ = some (.string e.item) ∧ w'.cell? ⟨g3, 3, none⟩ = some (.int .i64 2) from ⟨(hk.cell (p := ⟨b, 11, none⟩) hbX (.inl rfl)).trans qm, blk_cell (hk.blk H4.out (.inr (.inr rfl))) 0 rfl, blk_cell (hk.blk H4.out (.inr (.inr rfl))) 1 rfl, (by rw [HkdE.out]; exact blk_cell (hk.blk H3.out (.inr (.inl rfl))) 3 rfl)⟩)
        have Hk1 := Lib.hid (show Keeps (fun g => g = b ∨ g = g3 ∨ g = g4) X W1 from hkx.mono (fun g _ hg => by rcases hg with rfl | rfl | rfl; exact hmb.symm; omega; omega))
        clear P1 hm1 hk1 hc1 ht1 hback hmp qm hkx
        go_upto_region 7 with fail
        refine wp_region_held_drew (S := fun w' => w'.cell? ⟨b, 11, none⟩ = some (.map (some m)) ∧ w'.cell? ⟨g4, 0, none⟩ = some (.string e.person) ∧ w'.cell? ⟨g4, 1, none⟩ = some (.string e.item) ∧ w'.cell? ⟨g3, 3, none⟩ = some (.int .i64 2)) (by kernel_rfl) (by exact HS.out X.drew ((Keeps.refl _ _).drew)) (fun hHeld => ?_)
        change wpAnyH _ _ _ _ _ _ #[false, false, false, false, false, false] _ _
        refine wpAnyH_take (i := 0) (oi := { dst := some 32, op := Go.Op.move (Go.Operand.tmp 0), type := 55, pos := "crowd.go:86", after := #[], guard := none }) (v := ?_) rfl (by kernel_rfl) (by kernel_rfl) (by kernel_rfl) (fun _ _ _ h => h) (Or.inl ⟨by rfl, ?_⟩) hHeld ?_
        rotate_left
        · intro w hSw
          (try dsimp only at hSw)
          go_simp
          all_goals (with_reducible rfl)
        try simp only [Act.put, List.setIfInBounds_toArray, List.set_cons_zero, List.set_cons_succ]
        refine wpAnyH_take (i := 1) (oi := { dst := some 33, op := Go.Op.nilCheck (Go.Operand.tmp 32), type := 0, pos := "crowd.go:86", after := #[{ on := 0, ground := Go.Ground.data }], guard := none }) (v := ?_) rfl (by kernel_rfl) (by kernel_rfl) (by kernel_rfl) (fun _ _ _ h => h) (Or.inl ⟨by rfl, ?_⟩) hHeld ?_
        rotate_left
        · intro w hSw
          (try dsimp only at hSw)
          go_simp
          all_goals (with_reducible rfl)
        try simp only [Act.put, List.setIfInBounds_toArray, List.set_cons_zero, List.set_cons_succ]
        refine wpAnyH_take (i := 2) (oi := { dst := some 34, op := Go.Op.fieldAddr 139 (Go.Operand.tmp 33) 4, type := 0, pos := "crowd.go:86", after := #[{ on := 1, ground := Go.Ground.data }], guard := none }) (v := ?_) rfl (by kernel_rfl) (by kernel_rfl) (by kernel_rfl) (fun _ _ _ h => h) (Or.inl ⟨by rfl, ?_⟩) hHeld ?_
        rotate_left
        · intro w hSw
          (try dsimp only at hSw)
          go_simp
          all_goals (with_reducible rfl)
        try simp only [Act.put, List.setIfInBounds_toArray, List.set_cons_zero, List.set_cons_succ]
        refine wpAnyH_take (i := 3) (oi := { dst := some 35, op := Go.Op.load 135 (Go.Operand.tmp 34), type := 135, pos := "crowd.go:86", after := #[{ on := 2, ground := Go.Ground.data }], guard := none }) (v := ?_) rfl (by kernel_rfl) (by kernel_rfl) (by kernel_rfl) (fun _ _ _ h => h) (Or.inl ⟨by rfl, ?_⟩) hHeld ?_
        rotate_left
        · intro w hSw
          (try dsimp only at hSw)
          go_simp
          all_goals (with_reducible rfl)
        try simp only [Act.put, List.setIfInBounds_toArray, List.set_cons_zero, List.set_cons_succ]
        refine wpAnyH_take (i := 4) (oi := { dst := some 36, op := Go.Op.load 201 (Go.Operand.tmp 4), type := 201, pos := "crowd.go:86", after := #[], guard := none }) (v := ?_) rfl (by kernel_rfl) (by kernel_rfl) (by kernel_rfl) (fun _ _ _ h => h) (Or.inl ⟨by rfl, ?_⟩) hHeld ?_
        rotate_left
        · intro w hSw
          (try dsimp only at hSw)
          go_simp
          all_goals (with_reducible rfl)
        try simp only [Act.put, List.setIfInBounds_toArray, List.set_cons_zero, List.set_cons_succ]
        refine wpAnyH_ready (rs := [5]) (by kernel_rfl) (by simp) ?_
        refine (AllReadyH.cons (o := { dst := none, op := Go.Op.mapUpdate 135 (Go.Operand.tmp 35) (Go.Operand.tmp 36) (Go.Operand.const (Go.Value.bool true)), type := 0, pos := "crowd.go:86", after := #[{ on := 3, ground := Go.Ground.data }, { on := 4, ground := Go.Ground.data }, { on := 0, ground := Go.Ground.phase }, { on := 1, ground := Go.Ground.phase }, { on := 2, ground := Go.Ground.phase }, { on := 3, ground := Go.Ground.phase }, { on := 4, ground := Go.Ground.phase }], guard := none }) rfl (fun K hK => ?_) AllReadyH.nil)
        go_simp
        refine hK.out _ _ (by exact HS.out _ Hk1.out) (fun hHeld => ?_)
        clear hK K
        try simp only [List.setIfInBounds_toArray, List.set_cons_zero, List.set_cons_succ]
        refine wpAnyH_done (by kernel_rfl) ?_ _
        go_wp2_with fail
        go_meet
        exact Hfin.out
      · obtain rfl : kd = 3 := by omega
        obtain ⟨m, qm, hmb, hmf, hmp, hback⟩ := crd_did (HcX.out.ext ((Keeps.refl _ _).drew))
        obtain ⟨W1, P1, hm1, hk1, _⟩ := hmp.put Tryz.underlying135 (e.person, e.item) true
        have P1' : (Instr.mapUpdate 135 (.map (some m)) (.agg #[.string e.person, .string e.item]) (.bool true)).run Tryz.prog X.drew = .ok () W1 := P1
        obtain ⟨fp1, hc1, ht1⟩ := hback W1 _ hm1 hk1
        have hmw := Hfl.out m hmf
        have hkx : Keeps (fun g => g ≠ m) X W1 := ⟨hk1.os, hk1.tape, hk1.output, hk1.size, hk1.block⟩
        have Hfin := Lib.hid (show (∃ fp1, CrdAt W1 b fp1 (crdKind c e) ∧ Turned fp fp1 X W1) ∧ W1.heap[g3]? = some (.cells #[.string e.src, .int .i64 e.num, .int .i64 e.tick, .int .i64 e.kind, .string e.person, .string e.item, .int .i64 e.value, .string e.text] 30) ∧ W1.heap[g4]? = some (.cells #[.string e.person, .string e.item] 201) from ⟨⟨fp1, by rw [kind_did (by rw [← HkdE.out]; decide)]; exact hc1, (Turned.of_ext ((Keeps.refl _ _).drew)).trans ht1⟩, hkx.blk H3.out (by omega), hkx.blk H4.out (by omega)⟩)
        have HS := Lib.hid (fun (w' : World) (hk : Keeps (fun g => g = b ∨ g = g3 ∨ g = g4) X w') => show w'.cell? ⟨b, 11, none⟩ = some (.map (some m)) ∧ w'.cell? ⟨g4, 0, none⟩ = some (.string e.person) ∧ w'.cell? ⟨g4, 1, none⟩ = some (.string e.item) ∧ w'.cell? ⟨g3, 3, none⟩ = some (.int .i64 3) from ⟨(hk.cell (p := ⟨b, 11, none⟩) hbX (.inl rfl)).trans qm, blk_cell (hk.blk H4.out (.inr (.inr rfl))) 0 rfl, blk_cell (hk.blk H4.out (.inr (.inr rfl))) 1 rfl, (by rw [HkdE.out]; exact blk_cell (hk.blk H3.out (.inr (.inl rfl))) 3 rfl)⟩)
        have Hk1 := Lib.hid (show Keeps (fun g => g = b ∨ g = g3 ∨ g = g4) X W1 from hkx.mono (fun g _ hg => by rcases hg with rfl | rfl | rfl; exact hmb.symm; omega; omega))
        clear P1 hm1 hk1 hc1 ht1 hback hmp qm hkx
        go_upto_region 7 with fail
        refine wp_region_held_drew (S := fun w' => w'.cell? ⟨b, 11, none⟩ = some (.map (some m)) ∧ w'.cell? ⟨g4, 0, none⟩ = some (.string e.person) ∧ w'.cell? ⟨g4, 1, none⟩ = some (.string e.item) ∧ w'.cell? ⟨g3, 3, none⟩ = some (.int .i64 3)) (by kernel_rfl) (by exact HS.out X.drew ((Keeps.refl _ _).drew)) (fun hHeld => ?_)
        change wpAnyH _ _ _ _ _ _ #[false, false, false, false, false, false] _ _
        refine wpAnyH_take (i := 0) (oi := { dst := some 32, op := Go.Op.move (Go.Operand.tmp 0), type := 55, pos := "crowd.go:86", after := #[], guard := none }) (v := ?_) rfl (by kernel_rfl) (by kernel_rfl) (by kernel_rfl) (fun _ _ _ h => h) (Or.inl ⟨by rfl, ?_⟩) hHeld ?_
        rotate_left
        · intro w hSw
          (try dsimp only at hSw)
          go_simp
          all_goals (with_reducible rfl)
        try simp only [Act.put, List.setIfInBounds_toArray, List.set_cons_zero, List.set_cons_succ]
        refine wpAnyH_take (i := 1) (oi := { dst := some 33, op := Go.Op.nilCheck (Go.Operand.tmp 32), type := 0, pos := "crowd.go:86", after := #[{ on := 0, ground := Go.Ground.data }], guard := none }) (v := ?_) rfl (by kernel_rfl) (by kernel_rfl) (by kernel_rfl) (fun _ _ _ h => h) (Or.inl ⟨by rfl, ?_⟩) hHeld ?_
        rotate_left
        · intro w hSw
          (try dsimp only at hSw)
          go_simp
          all_goals (with_reducible rfl)
        try simp only [Act.put, List.setIfInBounds_toArray, List.set_cons_zero, List.set_cons_succ]
        refine wpAnyH_take (i := 2) (oi := { dst := some 34, op := Go.Op.fieldAddr 139 (Go.Operand.tmp 33) 4, type := 0, pos := "crowd.go:86", after := #[{ on := 1, ground := Go.Ground.data }], guard := none }) (v := ?_) rfl (by kernel_rfl) (by kernel_rfl) (by kernel_rfl) (fun _ _ _ h => h) (Or.inl ⟨by rfl, ?_⟩) hHeld ?_
        rotate_left
        · intro w hSw
          (try dsimp only at hSw)
          go_simp
          all_goals (with_reducible rfl)
        try simp only [Act.put, List.setIfInBounds_toArray, List.set_cons_zero, List.set_cons_succ]
        refine wpAnyH_take (i := 3) (oi := { dst := some 35, op := Go.Op.load 135 (Go.Operand.tmp 34), type := 135, pos := "crowd.go:86", after := #[{ on := 2, ground := Go.Ground.data }], guard := none }) (v := ?_) rfl (by kernel_rfl) (by kernel_rfl) (by kernel_rfl) (fun _ _ _ h => h) (Or.inl ⟨by rfl, ?_⟩) hHeld ?_
        rotate_left
        · intro w hSw
          (try dsimp only at hSw)
          go_simp
          all_goals (with_reducible rfl)
        try simp only [Act.put, List.setIfInBounds_toArray, List.set_cons_zero, List.set_cons_succ]
        refine wpAnyH_take (i := 4) (oi := { dst := some 36, op := Go.Op.load 201 (Go.Operand.tmp 4), type := 201, pos := "crowd.go:86", after := #[], guard := none }) (v := ?_) rfl (by kernel_rfl) (by kernel_rfl) (by kernel_rfl) (fun _ _ _ h => h) (Or.inl ⟨by rfl, ?_⟩) hHeld ?_
        rotate_left
        · intro w hSw
          (try dsimp only at hSw)
          go_simp
          all_goals (with_reducible rfl)
        try simp only [Act.put, List.setIfInBounds_toArray, List.set_cons_zero, List.set_cons_succ]
        refine wpAnyH_ready (rs := [5]) (by kernel_rfl) (by simp) ?_
        refine (AllReadyH.cons (o := { dst := none, op := Go.Op.mapUpdate 135 (Go.Operand.tmp 35) (Go.Operand.tmp 36) (Go.Operand.const (Go.Value.bool true)), type := 0, pos := "crowd.go:86", after := #[{ on := 3, ground := Go.Ground.data }, { on := 4, ground := Go.Ground.data }, { on := 0, ground := Go.Ground.phase }, { on := 1, ground := Go.Ground.phase }, { on := 2, ground := Go.Ground.phase }, { on := 3, ground := Go.Ground.phase }, { on := 4, ground := Go.Ground.phase }], guard := none }) rfl (fun K hK => ?_) AllReadyH.nil)
        go_simp
        refine hK.out _ _ (by exact HS.out _ Hk1.out) (fun hHeld => ?_)
        clear hK K
        try simp only [List.setIfInBounds_toArray, List.set_cons_zero, List.set_cons_succ]
        refine wpAnyH_done (by kernel_rfl) ?_ _
        go_wp2_with fail
        go_meet
        exact Hfin.out
      · obtain rfl : kd = 5 := by omega
        obtain ⟨m, qm, hmb, hmf, hmp, hback⟩ := crd_hidden (HcX.out.ext ((Keeps.refl _ _).drew))
        obtain ⟨W1, P1, hm1, hk1, _⟩ := hmp.put Tryz.underlying135 (e.person, e.item) true
        have P1' : (Instr.mapUpdate 135 (.map (some m)) (.agg #[.string e.person, .string e.item]) (.bool true)).run Tryz.prog X.drew = .ok () W1 := P1
        obtain ⟨fp1, hc1, ht1⟩ := hback W1 _ hm1 hk1
        have hmw := Hfl.out m hmf
        have hkx : Keeps (fun g => g ≠ m) X W1 := ⟨hk1.os, hk1.tape, hk1.output, hk1.size, hk1.block⟩
        have Hfin := Lib.hid (show (∃ fp1, CrdAt W1 b fp1 (crdKind c e) ∧ Turned fp fp1 X W1) ∧ W1.heap[g3]? = some (.cells #[.string e.src, .int .i64 e.num, .int .i64 e.tick, .int .i64 e.kind, .string e.person, .string e.item, .int .i64 e.value, .string e.text] 30) ∧ W1.heap[g4]? = some (.cells #[.string e.person, .string e.item] 201) from ⟨⟨fp1, by rw [kind_hidden (by rw [← HkdE.out]; decide) (by first | (rw [← HkdE.out]; done) | (rw [← HkdE.out]; rfl))]; exact hc1, (Turned.of_ext ((Keeps.refl _ _).drew)).trans ht1⟩, hkx.blk H3.out (by omega), hkx.blk H4.out (by omega)⟩)
        have HS := Lib.hid (fun (w' : World) (hk : Keeps (fun g => g = b ∨ g = g3 ∨ g = g4) X w') => show w'.cell? ⟨b, 13, none⟩ = some (.map (some m)) ∧ w'.cell? ⟨g4, 0, none⟩ = some (.string e.person) ∧ w'.cell? ⟨g4, 1, none⟩ = some (.string e.item) ∧ w'.cell? ⟨g3, 3, none⟩ = some (.int .i64 5) from ⟨(hk.cell (p := ⟨b, 13, none⟩) hbX (.inl rfl)).trans qm, blk_cell (hk.blk H4.out (.inr (.inr rfl))) 0 rfl, blk_cell (hk.blk H4.out (.inr (.inr rfl))) 1 rfl, (by rw [HkdE.out]; exact blk_cell (hk.blk H3.out (.inr (.inl rfl))) 3 rfl)⟩)
        have Hk1 := Lib.hid (show Keeps (fun g => g = b ∨ g = g3 ∨ g = g4) X W1 from hkx.mono (fun g _ hg => by rcases hg with rfl | rfl | rfl; exact hmb.symm; omega; omega))
        clear P1 hm1 hk1 hc1 ht1 hback hmp qm hkx
        go_upto_region 10 with fail
        refine wp_region_held_drew (S := fun w' => w'.cell? ⟨b, 13, none⟩ = some (.map (some m)) ∧ w'.cell? ⟨g4, 0, none⟩ = some (.string e.person) ∧ w'.cell? ⟨g4, 1, none⟩ = some (.string e.item) ∧ w'.cell? ⟨g3, 3, none⟩ = some (.int .i64 5)) (by kernel_rfl) (by exact HS.out X.drew ((Keeps.refl _ _).drew)) (fun hHeld => ?_)
        change wpAnyH _ _ _ _ _ _ #[false, false, false, false, false, false, false, false, false] _ _
        refine wpAnyH_take (i := 0) (oi := { dst := some 40, op := Go.Op.move (Go.Operand.tmp 0), type := 55, pos := "crowd.go:88", after := #[], guard := none }) (v := ?_) rfl (by kernel_rfl) (by kernel_rfl) (by kernel_rfl) (fun _ _ _ h => h) (Or.inl ⟨by rfl, ?_⟩) hHeld ?_
        rotate_left
        · intro w hSw
          (try dsimp only at hSw)
          go_simp
          all_goals (with_reducible rfl)
        try simp only [Act.put, List.setIfInBounds_toArray, List.set_cons_zero, List.set_cons_succ]
        refine wpAnyH_take (i := 1) (oi := { dst := some 41, op := Go.Op.nilCheck (Go.Operand.tmp 40), type := 0, pos := "crowd.go:88", after := #[{ on := 0, ground := Go.Ground.data }], guard := none }) (v := ?_) rfl (by kernel_rfl) (by kernel_rfl) (by kernel_rfl) (fun _ _ _ h => h) (Or.inl ⟨by rfl, ?_⟩) hHeld ?_
        rotate_left
        · intro w hSw
          (try dsimp only at hSw)
          go_simp
          all_goals (with_reducible rfl)
        try simp only [Act.put, List.setIfInBounds_toArray, List.set_cons_zero, List.set_cons_succ]
        refine wpAnyH_take (i := 2) (oi := { dst := some 42, op := Go.Op.fieldAddr 139 (Go.Operand.tmp 41) 6, type := 0, pos := "crowd.go:88", after := #[{ on := 1, ground := Go.Ground.data }], guard := none }) (v := ?_) rfl (by kernel_rfl) (by kernel_rfl) (by kernel_rfl) (fun _ _ _ h => h) (Or.inl ⟨by rfl, ?_⟩) hHeld ?_
        rotate_left
        · intro w hSw
          (try dsimp only at hSw)
          go_simp
          all_goals (with_reducible rfl)
        try simp only [Act.put, List.setIfInBounds_toArray, List.set_cons_zero, List.set_cons_succ]
        refine wpAnyH_take (i := 3) (oi := { dst := some 43, op := Go.Op.load 135 (Go.Operand.tmp 42), type := 135, pos := "crowd.go:88", after := #[{ on := 2, ground := Go.Ground.data }], guard := none }) (v := ?_) rfl (by kernel_rfl) (by kernel_rfl) (by kernel_rfl) (fun _ _ _ h => h) (Or.inl ⟨by rfl, ?_⟩) hHeld ?_
        rotate_left
        · intro w hSw
          (try dsimp only at hSw)
          go_simp
          all_goals (with_reducible rfl)
        try simp only [Act.put, List.setIfInBounds_toArray, List.set_cons_zero, List.set_cons_succ]
        refine wpAnyH_take (i := 4) (oi := { dst := some 44, op := Go.Op.load 201 (Go.Operand.tmp 4), type := 201, pos := "crowd.go:88", after := #[], guard := none }) (v := ?_) rfl (by kernel_rfl) (by kernel_rfl) (by kernel_rfl) (fun _ _ _ h => h) (Or.inl ⟨by rfl, ?_⟩) hHeld ?_
        rotate_left
        · intro w hSw
          (try dsimp only at hSw)
          go_simp
          all_goals (with_reducible rfl)
        try simp only [Act.put, List.setIfInBounds_toArray, List.set_cons_zero, List.set_cons_succ]
        refine wpAnyH_take (i := 5) (oi := { dst := some 45, op := Go.Op.fieldAddr 30 (Go.Operand.tmp 3) 3, type := 0, pos := "crowd.go:88", after := #[], guard := none }) (v := ?_) rfl (by kernel_rfl) (by kernel_rfl) (by kernel_rfl) (fun _ _ _ h => h) (Or.inl ⟨by rfl, ?_⟩) hHeld ?_
        rotate_left
        · intro w hSw
          (try dsimp only at hSw)
          go_simp
          all_goals (with_reducible rfl)
        try simp only [Act.put, List.setIfInBounds_toArray, List.set_cons_zero, List.set_cons_succ]
        refine wpAnyH_take (i := 6) (oi := { dst := some 46, op := Go.Op.load 28 (Go.Operand.tmp 45), type := 28, pos := "crowd.go:88", after := #[{ on := 5, ground := Go.Ground.data }], guard := none }) (v := ?_) rfl (by kernel_rfl) (by kernel_rfl) (by kernel_rfl) (fun _ _ _ h => h) (Or.inl ⟨by rfl, ?_⟩) hHeld ?_
        rotate_left
        · intro w hSw
          (try dsimp only at hSw)
          go_simp
          all_goals (with_reducible rfl)
        try simp only [Act.put, List.setIfInBounds_toArray, List.set_cons_zero, List.set_cons_succ]
        refine wpAnyH_take (i := 7) (oi := { dst := some 47, op := Go.Op.binOp Go.BinOp.eql 28 (Go.Operand.tmp 46) (Go.Operand.const (Go.Value.int Go.IntKind.i64 5)) 28, type := 4, pos := "crowd.go:88", after := #[{ on := 6, ground := Go.Ground.data }], guard := none }) (v := ?_) rfl (by kernel_rfl) (by kernel_rfl) (by kernel_rfl) (fun _ _ _ h => h) (Or.inl ⟨by rfl, ?_⟩) hHeld ?_
        rotate_left
        · intro w hSw
          (try dsimp only at hSw)
          go_simp
          all_goals (with_reducible rfl)
        try simp only [Act.put, List.setIfInBounds_toArray, List.set_cons_zero, List.set_cons_succ]
        refine wpAnyH_ready (rs := [8]) (by kernel_rfl) (by simp) ?_
        refine (AllReadyH.cons (o := { dst := none, op := Go.Op.mapUpdate 135 (Go.Operand.tmp 43) (Go.Operand.tmp 44) (Go.Operand.tmp 47), type := 0, pos := "crowd.go:88", after := #[{ on := 3, ground := Go.Ground.data }, { on := 4, ground := Go.Ground.data }, { on := 7, ground := Go.Ground.data }, { on := 0, ground := Go.Ground.phase }, { on := 1, ground := Go.Ground.phase }, { on := 2, ground := Go.Ground.phase }, { on := 3, ground := Go.Ground.phase }, { on := 4, ground := Go.Ground.phase }, { on := 5, ground := Go.Ground.phase }, { on := 6, ground := Go.Ground.phase }, { on := 7, ground := Go.Ground.phase }], guard := none }) rfl (fun K hK => ?_) AllReadyH.nil)
        go_simp
        refine hK.out _ _ (by exact HS.out _ Hk1.out) (fun hHeld => ?_)
        clear hK K
        try simp only [List.setIfInBounds_toArray, List.set_cons_zero, List.set_cons_succ]
        refine wpAnyH_done (by kernel_rfl) ?_ _
        go_wp2_with fail
        go_meet
        exact Hfin.out
      · obtain rfl : kd = 6 := by omega
        obtain ⟨m, qm, hmb, hmf, hmp, hback⟩ := crd_hidden (HcX.out.ext ((Keeps.refl _ _).drew))
        obtain ⟨W1, P1, hm1, hk1, _⟩ := hmp.put Tryz.underlying135 (e.person, e.item) false
        have P1' : (Instr.mapUpdate 135 (.map (some m)) (.agg #[.string e.person, .string e.item]) (.bool false)).run Tryz.prog X.drew = .ok () W1 := P1
        obtain ⟨fp1, hc1, ht1⟩ := hback W1 _ hm1 hk1
        have hmw := Hfl.out m hmf
        have hkx : Keeps (fun g => g ≠ m) X W1 := ⟨hk1.os, hk1.tape, hk1.output, hk1.size, hk1.block⟩
        have Hfin := Lib.hid (show (∃ fp1, CrdAt W1 b fp1 (crdKind c e) ∧ Turned fp fp1 X W1) ∧ W1.heap[g3]? = some (.cells #[.string e.src, .int .i64 e.num, .int .i64 e.tick, .int .i64 e.kind, .string e.person, .string e.item, .int .i64 e.value, .string e.text] 30) ∧ W1.heap[g4]? = some (.cells #[.string e.person, .string e.item] 201) from ⟨⟨fp1, by rw [kind_hidden (by rw [← HkdE.out]; decide) (by first | (rw [← HkdE.out]; done) | (rw [← HkdE.out]; rfl))]; exact hc1, (Turned.of_ext ((Keeps.refl _ _).drew)).trans ht1⟩, hkx.blk H3.out (by omega), hkx.blk H4.out (by omega)⟩)
        have HS := Lib.hid (fun (w' : World) (hk : Keeps (fun g => g = b ∨ g = g3 ∨ g = g4) X w') => show w'.cell? ⟨b, 13, none⟩ = some (.map (some m)) ∧ w'.cell? ⟨g4, 0, none⟩ = some (.string e.person) ∧ w'.cell? ⟨g4, 1, none⟩ = some (.string e.item) ∧ w'.cell? ⟨g3, 3, none⟩ = some (.int .i64 6) from ⟨(hk.cell (p := ⟨b, 13, none⟩) hbX (.inl rfl)).trans qm, blk_cell (hk.blk H4.out (.inr (.inr rfl))) 0 rfl, blk_cell (hk.blk H4.out (.inr (.inr rfl))) 1 rfl, (by rw [HkdE.out]; exact blk_cell (hk.blk H3.out (.inr (.inl rfl))) 3 rfl)⟩)
        have Hk1 := Lib.hid (show Keeps (fun g => g = b ∨ g = g3 ∨ g = g4) X W1 from hkx.mono (fun g _ hg => by rcases hg with rfl | rfl | rfl; exact hmb.symm; omega; omega))
        clear P1 hm1 hk1 hc1 ht1 hback hmp qm hkx
        go_upto_region 10 with fail
        refine wp_region_held_drew (S := fun w' => w'.cell? ⟨b, 13, none⟩ = some (.map (some m)) ∧ w'.cell? ⟨g4, 0, none⟩ = some (.string e.person) ∧ w'.cell? ⟨g4, 1, none⟩ = some (.string e.item) ∧ w'.cell? ⟨g3, 3, none⟩ = some (.int .i64 6)) (by kernel_rfl) (by exact HS.out X.drew ((Keeps.refl _ _).drew)) (fun hHeld => ?_)
        change wpAnyH _ _ _ _ _ _ #[false, false, false, false, false, false, false, false, false] _ _
        refine wpAnyH_take (i := 0) (oi := { dst := some 40, op := Go.Op.move (Go.Operand.tmp 0), type := 55, pos := "crowd.go:88", after := #[], guard := none }) (v := ?_) rfl (by kernel_rfl) (by kernel_rfl) (by kernel_rfl) (fun _ _ _ h => h) (Or.inl ⟨by rfl, ?_⟩) hHeld ?_
        rotate_left
        · intro w hSw
          (try dsimp only at hSw)
          go_simp
          all_goals (with_reducible rfl)
        try simp only [Act.put, List.setIfInBounds_toArray, List.set_cons_zero, List.set_cons_succ]
        refine wpAnyH_take (i := 1) (oi := { dst := some 41, op := Go.Op.nilCheck (Go.Operand.tmp 40), type := 0, pos := "crowd.go:88", after := #[{ on := 0, ground := Go.Ground.data }], guard := none }) (v := ?_) rfl (by kernel_rfl) (by kernel_rfl) (by kernel_rfl) (fun _ _ _ h => h) (Or.inl ⟨by rfl, ?_⟩) hHeld ?_
        rotate_left
        · intro w hSw
          (try dsimp only at hSw)
          go_simp
          all_goals (with_reducible rfl)
        try simp only [Act.put, List.setIfInBounds_toArray, List.set_cons_zero, List.set_cons_succ]
        refine wpAnyH_take (i := 2) (oi := { dst := some 42, op := Go.Op.fieldAddr 139 (Go.Operand.tmp 41) 6, type := 0, pos := "crowd.go:88", after := #[{ on := 1, ground := Go.Ground.data }], guard := none }) (v := ?_) rfl (by kernel_rfl) (by kernel_rfl) (by kernel_rfl) (fun _ _ _ h => h) (Or.inl ⟨by rfl, ?_⟩) hHeld ?_
        rotate_left
        · intro w hSw
          (try dsimp only at hSw)
          go_simp
          all_goals (with_reducible rfl)
        try simp only [Act.put, List.setIfInBounds_toArray, List.set_cons_zero, List.set_cons_succ]
        refine wpAnyH_take (i := 3) (oi := { dst := some 43, op := Go.Op.load 135 (Go.Operand.tmp 42), type := 135, pos := "crowd.go:88", after := #[{ on := 2, ground := Go.Ground.data }], guard := none }) (v := ?_) rfl (by kernel_rfl) (by kernel_rfl) (by kernel_rfl) (fun _ _ _ h => h) (Or.inl ⟨by rfl, ?_⟩) hHeld ?_
        rotate_left
        · intro w hSw
          (try dsimp only at hSw)
          go_simp
          all_goals (with_reducible rfl)
        try simp only [Act.put, List.setIfInBounds_toArray, List.set_cons_zero, List.set_cons_succ]
        refine wpAnyH_take (i := 4) (oi := { dst := some 44, op := Go.Op.load 201 (Go.Operand.tmp 4), type := 201, pos := "crowd.go:88", after := #[], guard := none }) (v := ?_) rfl (by kernel_rfl) (by kernel_rfl) (by kernel_rfl) (fun _ _ _ h => h) (Or.inl ⟨by rfl, ?_⟩) hHeld ?_
        rotate_left
        · intro w hSw
          (try dsimp only at hSw)
          go_simp
          all_goals (with_reducible rfl)
        try simp only [Act.put, List.setIfInBounds_toArray, List.set_cons_zero, List.set_cons_succ]
        refine wpAnyH_take (i := 5) (oi := { dst := some 45, op := Go.Op.fieldAddr 30 (Go.Operand.tmp 3) 3, type := 0, pos := "crowd.go:88", after := #[], guard := none }) (v := ?_) rfl (by kernel_rfl) (by kernel_rfl) (by kernel_rfl) (fun _ _ _ h => h) (Or.inl ⟨by rfl, ?_⟩) hHeld ?_
        rotate_left
        · intro w hSw
          (try dsimp only at hSw)
          go_simp
          all_goals (with_reducible rfl)
        try simp only [Act.put, List.setIfInBounds_toArray, List.set_cons_zero, List.set_cons_succ]
        refine wpAnyH_take (i := 6) (oi := { dst := some 46, op := Go.Op.load 28 (Go.Operand.tmp 45), type := 28, pos := "crowd.go:88", after := #[{ on := 5, ground := Go.Ground.data }], guard := none }) (v := ?_) rfl (by kernel_rfl) (by kernel_rfl) (by kernel_rfl) (fun _ _ _ h => h) (Or.inl ⟨by rfl, ?_⟩) hHeld ?_
        rotate_left
        · intro w hSw
          (try dsimp only at hSw)
          go_simp
          all_goals (with_reducible rfl)
        try simp only [Act.put, List.setIfInBounds_toArray, List.set_cons_zero, List.set_cons_succ]
        refine wpAnyH_take (i := 7) (oi := { dst := some 47, op := Go.Op.binOp Go.BinOp.eql 28 (Go.Operand.tmp 46) (Go.Operand.const (Go.Value.int Go.IntKind.i64 5)) 28, type := 4, pos := "crowd.go:88", after := #[{ on := 6, ground := Go.Ground.data }], guard := none }) (v := ?_) rfl (by kernel_rfl) (by kernel_rfl) (by kernel_rfl) (fun _ _ _ h => h) (Or.inl ⟨by rfl, ?_⟩) hHeld ?_
        rotate_left
        · intro w hSw
          (try dsimp only at hSw)
          go_simp
          all_goals (with_reducible rfl)
        try simp only [Act.put, List.setIfInBounds_toArray, List.set_cons_zero, List.set_cons_succ]
        refine wpAnyH_ready (rs := [8]) (by kernel_rfl) (by simp) ?_
        refine (AllReadyH.cons (o := { dst := none, op := Go.Op.mapUpdate 135 (Go.Operand.tmp 43) (Go.Operand.tmp 44) (Go.Operand.tmp 47), type := 0, pos := "crowd.go:88", after := #[{ on := 3, ground := Go.Ground.data }, { on := 4, ground := Go.Ground.data }, { on := 7, ground := Go.Ground.data }, { on := 0, ground := Go.Ground.phase }, { on := 1, ground := Go.Ground.phase }, { on := 2, ground := Go.Ground.phase }, { on := 3, ground := Go.Ground.phase }, { on := 4, ground := Go.Ground.phase }, { on := 5, ground := Go.Ground.phase }, { on := 6, ground := Go.Ground.phase }, { on := 7, ground := Go.Ground.phase }], guard := none }) rfl (fun K hK => ?_) AllReadyH.nil)
        go_simp
        refine hK.out _ _ (by exact HS.out _ Hk1.out) (fun hHeld => ?_)
        clear hK K
        try simp only [List.setIfInBounds_toArray, List.set_cons_zero, List.set_cons_succ]
        refine wpAnyH_done (by kernel_rfl) ?_ _
        go_wp2_with fail
        go_meet
        exact Hfin.out
      · obtain rfl : kd = 7 := by omega
        obtain ⟨m, qm, hmb, hmf, hmp, hback⟩ := crd_follows (HcX.out.ext ((Keeps.refl _ _).drew))
        obtain ⟨W1, P1, hm1, hk1, _⟩ := hmp.put Tryz.underlying135 (e.person, e.text) true
        have P1' : (Instr.mapUpdate 135 (.map (some m)) (.agg #[.string e.person, .string e.text]) (.bool true)).run Tryz.prog X.drew = .ok () W1 := P1
        obtain ⟨fp1, hc1, ht1⟩ := hback W1 _ hm1 hk1
        have hmw := Hfl.out m hmf
        have hkx : Keeps (fun g => g ≠ m) X W1 := ⟨hk1.os, hk1.tape, hk1.output, hk1.size, hk1.block⟩
        have Hfin := Lib.hid (show (∃ fp1, CrdAt W1 b fp1 (crdKind c e) ∧ Turned fp fp1 X W1) ∧ W1.heap[g3]? = some (.cells #[.string e.src, .int .i64 e.num, .int .i64 e.tick, .int .i64 e.kind, .string e.person, .string e.item, .int .i64 e.value, .string e.text] 30) ∧ W1.heap[g4]? = some (.cells #[.string e.person, .string e.item] 201) from ⟨⟨fp1, by rw [kind_follows (by rw [← HkdE.out]; decide) (by first | (rw [← HkdE.out]; done) | (rw [← HkdE.out]; rfl))]; exact hc1, (Turned.of_ext ((Keeps.refl _ _).drew)).trans ht1⟩, hkx.blk H3.out (by omega), hkx.blk H4.out (by omega)⟩)
        have HS := Lib.hid (fun (w' : World) (hk : Keeps (fun g => g = b ∨ g = g3 ∨ g = g5) X w') => show w'.cell? ⟨b, 14, none⟩ = some (.map (some m)) ∧ w'.cell? ⟨g5, 0, none⟩ = some (.string e.person) ∧ w'.cell? ⟨g5, 1, none⟩ = some (.string e.text) ∧ w'.cell? ⟨g3, 3, none⟩ = some (.int .i64 7) from ⟨(hk.cell (p := ⟨b, 14, none⟩) hbX (.inl rfl)).trans qm, blk_cell (hk.blk H5.out (.inr (.inr rfl))) 0 rfl, blk_cell (hk.blk H5.out (.inr (.inr rfl))) 1 rfl, (by rw [HkdE.out]; exact blk_cell (hk.blk H3.out (.inr (.inl rfl))) 3 rfl)⟩)
        have Hk1 := Lib.hid (show Keeps (fun g => g = b ∨ g = g3 ∨ g = g5) X W1 from hkx.mono (fun g _ hg => by rcases hg with rfl | rfl | rfl; exact hmb.symm; omega; omega))
        clear P1 hm1 hk1 hc1 ht1 hback hmp qm hkx
        go_upto_region 13 with fail
        refine wp_region_held_drew (S := fun w' => w'.cell? ⟨b, 14, none⟩ = some (.map (some m)) ∧ w'.cell? ⟨g5, 0, none⟩ = some (.string e.person) ∧ w'.cell? ⟨g5, 1, none⟩ = some (.string e.text) ∧ w'.cell? ⟨g3, 3, none⟩ = some (.int .i64 7)) (by kernel_rfl) (by exact HS.out X.drew ((Keeps.refl _ _).drew)) (fun hHeld => ?_)
        change wpAnyH _ _ _ _ _ _ #[false, false, false, false, false, false, false, false, false] _ _
        refine wpAnyH_take (i := 0) (oi := { dst := some 51, op := Go.Op.move (Go.Operand.tmp 0), type := 55, pos := "crowd.go:90", after := #[], guard := none }) (v := ?_) rfl (by kernel_rfl) (by kernel_rfl) (by kernel_rfl) (fun _ _ _ h => h) (Or.inl ⟨by rfl, ?_⟩) hHeld ?_
        rotate_left
        · intro w hSw
          (try dsimp only at hSw)
          go_simp
          all_goals (with_reducible rfl)
        try simp only [Act.put, List.setIfInBounds_toArray, List.set_cons_zero, List.set_cons_succ]
        refine wpAnyH_take (i := 1) (oi := { dst := some 52, op := Go.Op.nilCheck (Go.Operand.tmp 51), type := 0, pos := "crowd.go:90", after := #[{ on := 0, ground := Go.Ground.data }], guard := none }) (v := ?_) rfl (by kernel_rfl) (by kernel_rfl) (by kernel_rfl) (fun _ _ _ h => h) (Or.inl ⟨by rfl, ?_⟩) hHeld ?_
        rotate_left
        · intro w hSw
          (try dsimp only at hSw)
          go_simp
          all_goals (with_reducible rfl)
        try simp only [Act.put, List.setIfInBounds_toArray, List.set_cons_zero, List.set_cons_succ]
        refine wpAnyH_take (i := 2) (oi := { dst := some 53, op := Go.Op.fieldAddr 139 (Go.Operand.tmp 52) 7, type := 0, pos := "crowd.go:90", after := #[{ on := 1, ground := Go.Ground.data }], guard := none }) (v := ?_) rfl (by kernel_rfl) (by kernel_rfl) (by kernel_rfl) (fun _ _ _ h => h) (Or.inl ⟨by rfl, ?_⟩) hHeld ?_
        rotate_left
        · intro w hSw
          (try dsimp only at hSw)
          go_simp
          all_goals (with_reducible rfl)
        try simp only [Act.put, List.setIfInBounds_toArray, List.set_cons_zero, List.set_cons_succ]
        refine wpAnyH_take (i := 3) (oi := { dst := some 54, op := Go.Op.load 135 (Go.Operand.tmp 53), type := 135, pos := "crowd.go:90", after := #[{ on := 2, ground := Go.Ground.data }], guard := none }) (v := ?_) rfl (by kernel_rfl) (by kernel_rfl) (by kernel_rfl) (fun _ _ _ h => h) (Or.inl ⟨by rfl, ?_⟩) hHeld ?_
        rotate_left
        · intro w hSw
          (try dsimp only at hSw)
          go_simp
          all_goals (with_reducible rfl)
        try simp only [Act.put, List.setIfInBounds_toArray, List.set_cons_zero, List.set_cons_succ]
        refine wpAnyH_take (i := 4) (oi := { dst := some 55, op := Go.Op.load 201 (Go.Operand.tmp 5), type := 201, pos := "crowd.go:90", after := #[], guard := none }) (v := ?_) rfl (by kernel_rfl) (by kernel_rfl) (by kernel_rfl) (fun _ _ _ h => h) (Or.inl ⟨by rfl, ?_⟩) hHeld ?_
        rotate_left
        · intro w hSw
          (try dsimp only at hSw)
          go_simp
          all_goals (with_reducible rfl)
        try simp only [Act.put, List.setIfInBounds_toArray, List.set_cons_zero, List.set_cons_succ]
        refine wpAnyH_take (i := 5) (oi := { dst := some 56, op := Go.Op.fieldAddr 30 (Go.Operand.tmp 3) 3, type := 0, pos := "crowd.go:90", after := #[], guard := none }) (v := ?_) rfl (by kernel_rfl) (by kernel_rfl) (by kernel_rfl) (fun _ _ _ h => h) (Or.inl ⟨by rfl, ?_⟩) hHeld ?_
        rotate_left
        · intro w hSw
          (try dsimp only at hSw)
          go_simp
          all_goals (with_reducible rfl)
        try simp only [Act.put, List.setIfInBounds_toArray, List.set_cons_zero, List.set_cons_succ]
        refine wpAnyH_take (i := 6) (oi := { dst := some 57, op := Go.Op.load 28 (Go.Operand.tmp 56), type := 28, pos := "crowd.go:90", after := #[{ on := 5, ground := Go.Ground.data }], guard := none }) (v := ?_) rfl (by kernel_rfl) (by kernel_rfl) (by kernel_rfl) (fun _ _ _ h => h) (Or.inl ⟨by rfl, ?_⟩) hHeld ?_
        rotate_left
        · intro w hSw
          (try dsimp only at hSw)
          go_simp
          all_goals (with_reducible rfl)
        try simp only [Act.put, List.setIfInBounds_toArray, List.set_cons_zero, List.set_cons_succ]
        refine wpAnyH_take (i := 7) (oi := { dst := some 58, op := Go.Op.binOp Go.BinOp.eql 28 (Go.Operand.tmp 57) (Go.Operand.const (Go.Value.int Go.IntKind.i64 7)) 28, type := 4, pos := "crowd.go:90", after := #[{ on := 6, ground := Go.Ground.data }], guard := none }) (v := ?_) rfl (by kernel_rfl) (by kernel_rfl) (by kernel_rfl) (fun _ _ _ h => h) (Or.inl ⟨by rfl, ?_⟩) hHeld ?_
        rotate_left
        · intro w hSw
          (try dsimp only at hSw)
          go_simp
          all_goals (with_reducible rfl)
        try simp only [Act.put, List.setIfInBounds_toArray, List.set_cons_zero, List.set_cons_succ]
        refine wpAnyH_ready (rs := [8]) (by kernel_rfl) (by simp) ?_
        refine (AllReadyH.cons (o := { dst := none, op := Go.Op.mapUpdate 135 (Go.Operand.tmp 54) (Go.Operand.tmp 55) (Go.Operand.tmp 58), type := 0, pos := "crowd.go:90", after := #[{ on := 3, ground := Go.Ground.data }, { on := 4, ground := Go.Ground.data }, { on := 7, ground := Go.Ground.data }, { on := 0, ground := Go.Ground.phase }, { on := 1, ground := Go.Ground.phase }, { on := 2, ground := Go.Ground.phase }, { on := 3, ground := Go.Ground.phase }, { on := 4, ground := Go.Ground.phase }, { on := 5, ground := Go.Ground.phase }, { on := 6, ground := Go.Ground.phase }, { on := 7, ground := Go.Ground.phase }], guard := none }) rfl (fun K hK => ?_) AllReadyH.nil)
        go_simp
        refine hK.out _ _ (by exact HS.out _ Hk1.out) (fun hHeld => ?_)
        clear hK K
        try simp only [List.setIfInBounds_toArray, List.set_cons_zero, List.set_cons_succ]
        refine wpAnyH_done (by kernel_rfl) ?_ _
        go_wp2_with fail
        go_meet
        exact Hfin.out
      · obtain rfl : kd = 8 := by omega
        obtain ⟨m, qm, hmb, hmf, hmp, hback⟩ := crd_follows (HcX.out.ext ((Keeps.refl _ _).drew))
        obtain ⟨W1, P1, hm1, hk1, _⟩ := hmp.put Tryz.underlying135 (e.person, e.text) false
        have P1' : (Instr.mapUpdate 135 (.map (some m)) (.agg #[.string e.person, .string e.text]) (.bool false)).run Tryz.prog X.drew = .ok () W1 := P1
        obtain ⟨fp1, hc1, ht1⟩ := hback W1 _ hm1 hk1
        have hmw := Hfl.out m hmf
        have hkx : Keeps (fun g => g ≠ m) X W1 := ⟨hk1.os, hk1.tape, hk1.output, hk1.size, hk1.block⟩
        have Hfin := Lib.hid (show (∃ fp1, CrdAt W1 b fp1 (crdKind c e) ∧ Turned fp fp1 X W1) ∧ W1.heap[g3]? = some (.cells #[.string e.src, .int .i64 e.num, .int .i64 e.tick, .int .i64 e.kind, .string e.person, .string e.item, .int .i64 e.value, .string e.text] 30) ∧ W1.heap[g4]? = some (.cells #[.string e.person, .string e.item] 201) from ⟨⟨fp1, by rw [kind_follows (by rw [← HkdE.out]; decide) (by first | (rw [← HkdE.out]; done) | (rw [← HkdE.out]; rfl))]; exact hc1, (Turned.of_ext ((Keeps.refl _ _).drew)).trans ht1⟩, hkx.blk H3.out (by omega), hkx.blk H4.out (by omega)⟩)
        have HS := Lib.hid (fun (w' : World) (hk : Keeps (fun g => g = b ∨ g = g3 ∨ g = g5) X w') => show w'.cell? ⟨b, 14, none⟩ = some (.map (some m)) ∧ w'.cell? ⟨g5, 0, none⟩ = some (.string e.person) ∧ w'.cell? ⟨g5, 1, none⟩ = some (.string e.text) ∧ w'.cell? ⟨g3, 3, none⟩ = some (.int .i64 8) from ⟨(hk.cell (p := ⟨b, 14, none⟩) hbX (.inl rfl)).trans qm, blk_cell (hk.blk H5.out (.inr (.inr rfl))) 0 rfl, blk_cell (hk.blk H5.out (.inr (.inr rfl))) 1 rfl, (by rw [HkdE.out]; exact blk_cell (hk.blk H3.out (.inr (.inl rfl))) 3 rfl)⟩)
        have Hk1 := Lib.hid (show Keeps (fun g => g = b ∨ g = g3 ∨ g = g5) X W1 from hkx.mono (fun g _ hg => by rcases hg with rfl | rfl | rfl; exact hmb.symm; omega; omega))
        clear P1 hm1 hk1 hc1 ht1 hback hmp qm hkx
        go_upto_region 13 with fail
        refine wp_region_held_drew (S := fun w' => w'.cell? ⟨b, 14, none⟩ = some (.map (some m)) ∧ w'.cell? ⟨g5, 0, none⟩ = some (.string e.person) ∧ w'.cell? ⟨g5, 1, none⟩ = some (.string e.text) ∧ w'.cell? ⟨g3, 3, none⟩ = some (.int .i64 8)) (by kernel_rfl) (by exact HS.out X.drew ((Keeps.refl _ _).drew)) (fun hHeld => ?_)
        change wpAnyH _ _ _ _ _ _ #[false, false, false, false, false, false, false, false, false] _ _
        refine wpAnyH_take (i := 0) (oi := { dst := some 51, op := Go.Op.move (Go.Operand.tmp 0), type := 55, pos := "crowd.go:90", after := #[], guard := none }) (v := ?_) rfl (by kernel_rfl) (by kernel_rfl) (by kernel_rfl) (fun _ _ _ h => h) (Or.inl ⟨by rfl, ?_⟩) hHeld ?_
        rotate_left
        · intro w hSw
          (try dsimp only at hSw)
          go_simp
          all_goals (with_reducible rfl)
        try simp only [Act.put, List.setIfInBounds_toArray, List.set_cons_zero, List.set_cons_succ]
        refine wpAnyH_take (i := 1) (oi := { dst := some 52, op := Go.Op.nilCheck (Go.Operand.tmp 51), type := 0, pos := "crowd.go:90", after := #[{ on := 0, ground := Go.Ground.data }], guard := none }) (v := ?_) rfl (by kernel_rfl) (by kernel_rfl) (by kernel_rfl) (fun _ _ _ h => h) (Or.inl ⟨by rfl, ?_⟩) hHeld ?_
        rotate_left
        · intro w hSw
          (try dsimp only at hSw)
          go_simp
          all_goals (with_reducible rfl)
        try simp only [Act.put, List.setIfInBounds_toArray, List.set_cons_zero, List.set_cons_succ]
        refine wpAnyH_take (i := 2) (oi := { dst := some 53, op := Go.Op.fieldAddr 139 (Go.Operand.tmp 52) 7, type := 0, pos := "crowd.go:90", after := #[{ on := 1, ground := Go.Ground.data }], guard := none }) (v := ?_) rfl (by kernel_rfl) (by kernel_rfl) (by kernel_rfl) (fun _ _ _ h => h) (Or.inl ⟨by rfl, ?_⟩) hHeld ?_
        rotate_left
        · intro w hSw
          (try dsimp only at hSw)
          go_simp
          all_goals (with_reducible rfl)
        try simp only [Act.put, List.setIfInBounds_toArray, List.set_cons_zero, List.set_cons_succ]
        refine wpAnyH_take (i := 3) (oi := { dst := some 54, op := Go.Op.load 135 (Go.Operand.tmp 53), type := 135, pos := "crowd.go:90", after := #[{ on := 2, ground := Go.Ground.data }], guard := none }) (v := ?_) rfl (by kernel_rfl) (by kernel_rfl) (by kernel_rfl) (fun _ _ _ h => h) (Or.inl ⟨by rfl, ?_⟩) hHeld ?_
        rotate_left
        · intro w hSw
          (try dsimp only at hSw)
          go_simp
          all_goals (with_reducible rfl)
        try simp only [Act.put, List.setIfInBounds_toArray, List.set_cons_zero, List.set_cons_succ]
        refine wpAnyH_take (i := 4) (oi := { dst := some 55, op := Go.Op.load 201 (Go.Operand.tmp 5), type := 201, pos := "crowd.go:90", after := #[], guard := none }) (v := ?_) rfl (by kernel_rfl) (by kernel_rfl) (by kernel_rfl) (fun _ _ _ h => h) (Or.inl ⟨by rfl, ?_⟩) hHeld ?_
        rotate_left
        · intro w hSw
          (try dsimp only at hSw)
          go_simp
          all_goals (with_reducible rfl)
        try simp only [Act.put, List.setIfInBounds_toArray, List.set_cons_zero, List.set_cons_succ]
        refine wpAnyH_take (i := 5) (oi := { dst := some 56, op := Go.Op.fieldAddr 30 (Go.Operand.tmp 3) 3, type := 0, pos := "crowd.go:90", after := #[], guard := none }) (v := ?_) rfl (by kernel_rfl) (by kernel_rfl) (by kernel_rfl) (fun _ _ _ h => h) (Or.inl ⟨by rfl, ?_⟩) hHeld ?_
        rotate_left
        · intro w hSw
          (try dsimp only at hSw)
          go_simp
          all_goals (with_reducible rfl)
        try simp only [Act.put, List.setIfInBounds_toArray, List.set_cons_zero, List.set_cons_succ]
        refine wpAnyH_take (i := 6) (oi := { dst := some 57, op := Go.Op.load 28 (Go.Operand.tmp 56), type := 28, pos := "crowd.go:90", after := #[{ on := 5, ground := Go.Ground.data }], guard := none }) (v := ?_) rfl (by kernel_rfl) (by kernel_rfl) (by kernel_rfl) (fun _ _ _ h => h) (Or.inl ⟨by rfl, ?_⟩) hHeld ?_
        rotate_left
        · intro w hSw
          (try dsimp only at hSw)
          go_simp
          all_goals (with_reducible rfl)
        try simp only [Act.put, List.setIfInBounds_toArray, List.set_cons_zero, List.set_cons_succ]
        refine wpAnyH_take (i := 7) (oi := { dst := some 58, op := Go.Op.binOp Go.BinOp.eql 28 (Go.Operand.tmp 57) (Go.Operand.const (Go.Value.int Go.IntKind.i64 7)) 28, type := 4, pos := "crowd.go:90", after := #[{ on := 6, ground := Go.Ground.data }], guard := none }) (v := ?_) rfl (by kernel_rfl) (by kernel_rfl) (by kernel_rfl) (fun _ _ _ h => h) (Or.inl ⟨by rfl, ?_⟩) hHeld ?_
        rotate_left
        · intro w hSw
          (try dsimp only at hSw)
          go_simp
          all_goals (with_reducible rfl)
        try simp only [Act.put, List.setIfInBounds_toArray, List.set_cons_zero, List.set_cons_succ]
        refine wpAnyH_ready (rs := [8]) (by kernel_rfl) (by simp) ?_
        refine (AllReadyH.cons (o := { dst := none, op := Go.Op.mapUpdate 135 (Go.Operand.tmp 54) (Go.Operand.tmp 55) (Go.Operand.tmp 58), type := 0, pos := "crowd.go:90", after := #[{ on := 3, ground := Go.Ground.data }, { on := 4, ground := Go.Ground.data }, { on := 7, ground := Go.Ground.data }, { on := 0, ground := Go.Ground.phase }, { on := 1, ground := Go.Ground.phase }, { on := 2, ground := Go.Ground.phase }, { on := 3, ground := Go.Ground.phase }, { on := 4, ground := Go.Ground.phase }, { on := 5, ground := Go.Ground.phase }, { on := 6, ground := Go.Ground.phase }, { on := 7, ground := Go.Ground.phase }], guard := none }) rfl (fun K hK => ?_) AllReadyH.nil)
        go_simp
        refine hK.out _ _ (by exact HS.out _ Hk1.out) (fun hHeld => ?_)
        clear hK K
        try simp only [List.setIfInBounds_toArray, List.set_cons_zero, List.set_cons_succ]
        refine wpAnyH_done (by kernel_rfl) ?_ _
        go_wp2_with fail
        go_meet
        exact Hfin.out
      · obtain rfl : kd = 9 := by omega
        obtain ⟨m, qm, hmb, hmf, hmp, hback⟩ := crd_mutes (HcX.out.ext ((Keeps.refl _ _).drew))
        obtain ⟨W1, P1, hm1, hk1, _⟩ := hmp.put Tryz.underlying135 (e.person, e.text) true
        have P1' : (Instr.mapUpdate 135 (.map (some m)) (.agg #[.string e.person, .string e.text]) (.bool true)).run Tryz.prog X.drew = .ok () W1 := P1
        obtain ⟨fp1, hc1, ht1⟩ := hback W1 _ hm1 hk1
        have hmw := Hfl.out m hmf
        have hkx : Keeps (fun g => g ≠ m) X W1 := ⟨hk1.os, hk1.tape, hk1.output, hk1.size, hk1.block⟩
        have Hfin := Lib.hid (show (∃ fp1, CrdAt W1 b fp1 (crdKind c e) ∧ Turned fp fp1 X W1) ∧ W1.heap[g3]? = some (.cells #[.string e.src, .int .i64 e.num, .int .i64 e.tick, .int .i64 e.kind, .string e.person, .string e.item, .int .i64 e.value, .string e.text] 30) ∧ W1.heap[g4]? = some (.cells #[.string e.person, .string e.item] 201) from ⟨⟨fp1, by rw [kind_mutes (by rw [← HkdE.out]; decide) (by first | (rw [← HkdE.out]; done) | (rw [← HkdE.out]; rfl))]; exact hc1, (Turned.of_ext ((Keeps.refl _ _).drew)).trans ht1⟩, hkx.blk H3.out (by omega), hkx.blk H4.out (by omega)⟩)
        have HS := Lib.hid (fun (w' : World) (hk : Keeps (fun g => g = b ∨ g = g3 ∨ g = g5) X w') => show w'.cell? ⟨b, 15, none⟩ = some (.map (some m)) ∧ w'.cell? ⟨g5, 0, none⟩ = some (.string e.person) ∧ w'.cell? ⟨g5, 1, none⟩ = some (.string e.text) ∧ w'.cell? ⟨g3, 3, none⟩ = some (.int .i64 9) from ⟨(hk.cell (p := ⟨b, 15, none⟩) hbX (.inl rfl)).trans qm, blk_cell (hk.blk H5.out (.inr (.inr rfl))) 0 rfl, blk_cell (hk.blk H5.out (.inr (.inr rfl))) 1 rfl, (by rw [HkdE.out]; exact blk_cell (hk.blk H3.out (.inr (.inl rfl))) 3 rfl)⟩)
        have Hk1 := Lib.hid (show Keeps (fun g => g = b ∨ g = g3 ∨ g = g5) X W1 from hkx.mono (fun g _ hg => by rcases hg with rfl | rfl | rfl; exact hmb.symm; omega; omega))
        clear P1 hm1 hk1 hc1 ht1 hback hmp qm hkx
        go_upto_region 16 with fail
        refine wp_region_held_drew (S := fun w' => w'.cell? ⟨b, 15, none⟩ = some (.map (some m)) ∧ w'.cell? ⟨g5, 0, none⟩ = some (.string e.person) ∧ w'.cell? ⟨g5, 1, none⟩ = some (.string e.text) ∧ w'.cell? ⟨g3, 3, none⟩ = some (.int .i64 9)) (by kernel_rfl) (by exact HS.out X.drew ((Keeps.refl _ _).drew)) (fun hHeld => ?_)
        change wpAnyH _ _ _ _ _ _ #[false, false, false, false, false, false, false, false, false] _ _
        refine wpAnyH_take (i := 0) (oi := { dst := some 62, op := Go.Op.move (Go.Operand.tmp 0), type := 55, pos := "crowd.go:92", after := #[], guard := none }) (v := ?_) rfl (by kernel_rfl) (by kernel_rfl) (by kernel_rfl) (fun _ _ _ h => h) (Or.inl ⟨by rfl, ?_⟩) hHeld ?_
        rotate_left
        · intro w hSw
          (try dsimp only at hSw)
          go_simp
          all_goals (with_reducible rfl)
        try simp only [Act.put, List.setIfInBounds_toArray, List.set_cons_zero, List.set_cons_succ]
        refine wpAnyH_take (i := 1) (oi := { dst := some 63, op := Go.Op.nilCheck (Go.Operand.tmp 62), type := 0, pos := "crowd.go:92", after := #[{ on := 0, ground := Go.Ground.data }], guard := none }) (v := ?_) rfl (by kernel_rfl) (by kernel_rfl) (by kernel_rfl) (fun _ _ _ h => h) (Or.inl ⟨by rfl, ?_⟩) hHeld ?_
        rotate_left
        · intro w hSw
          (try dsimp only at hSw)
          go_simp
          all_goals (with_reducible rfl)
        try simp only [Act.put, List.setIfInBounds_toArray, List.set_cons_zero, List.set_cons_succ]
        refine wpAnyH_take (i := 2) (oi := { dst := some 64, op := Go.Op.fieldAddr 139 (Go.Operand.tmp 63) 8, type := 0, pos := "crowd.go:92", after := #[{ on := 1, ground := Go.Ground.data }], guard := none }) (v := ?_) rfl (by kernel_rfl) (by kernel_rfl) (by kernel_rfl) (fun _ _ _ h => h) (Or.inl ⟨by rfl, ?_⟩) hHeld ?_
        rotate_left
        · intro w hSw
          (try dsimp only at hSw)
          go_simp
          all_goals (with_reducible rfl)
        try simp only [Act.put, List.setIfInBounds_toArray, List.set_cons_zero, List.set_cons_succ]
        refine wpAnyH_take (i := 3) (oi := { dst := some 65, op := Go.Op.load 135 (Go.Operand.tmp 64), type := 135, pos := "crowd.go:92", after := #[{ on := 2, ground := Go.Ground.data }], guard := none }) (v := ?_) rfl (by kernel_rfl) (by kernel_rfl) (by kernel_rfl) (fun _ _ _ h => h) (Or.inl ⟨by rfl, ?_⟩) hHeld ?_
        rotate_left
        · intro w hSw
          (try dsimp only at hSw)
          go_simp
          all_goals (with_reducible rfl)
        try simp only [Act.put, List.setIfInBounds_toArray, List.set_cons_zero, List.set_cons_succ]
        refine wpAnyH_take (i := 4) (oi := { dst := some 66, op := Go.Op.load 201 (Go.Operand.tmp 5), type := 201, pos := "crowd.go:92", after := #[], guard := none }) (v := ?_) rfl (by kernel_rfl) (by kernel_rfl) (by kernel_rfl) (fun _ _ _ h => h) (Or.inl ⟨by rfl, ?_⟩) hHeld ?_
        rotate_left
        · intro w hSw
          (try dsimp only at hSw)
          go_simp
          all_goals (with_reducible rfl)
        try simp only [Act.put, List.setIfInBounds_toArray, List.set_cons_zero, List.set_cons_succ]
        refine wpAnyH_take (i := 5) (oi := { dst := some 67, op := Go.Op.fieldAddr 30 (Go.Operand.tmp 3) 3, type := 0, pos := "crowd.go:92", after := #[], guard := none }) (v := ?_) rfl (by kernel_rfl) (by kernel_rfl) (by kernel_rfl) (fun _ _ _ h => h) (Or.inl ⟨by rfl, ?_⟩) hHeld ?_
        rotate_left
        · intro w hSw
          (try dsimp only at hSw)
          go_simp
          all_goals (with_reducible rfl)
        try simp only [Act.put, List.setIfInBounds_toArray, List.set_cons_zero, List.set_cons_succ]
        refine wpAnyH_take (i := 6) (oi := { dst := some 68, op := Go.Op.load 28 (Go.Operand.tmp 67), type := 28, pos := "crowd.go:92", after := #[{ on := 5, ground := Go.Ground.data }], guard := none }) (v := ?_) rfl (by kernel_rfl) (by kernel_rfl) (by kernel_rfl) (fun _ _ _ h => h) (Or.inl ⟨by rfl, ?_⟩) hHeld ?_
        rotate_left
        · intro w hSw
          (try dsimp only at hSw)
          go_simp
          all_goals (with_reducible rfl)
        try simp only [Act.put, List.setIfInBounds_toArray, List.set_cons_zero, List.set_cons_succ]
        refine wpAnyH_take (i := 7) (oi := { dst := some 69, op := Go.Op.binOp Go.BinOp.eql 28 (Go.Operand.tmp 68) (Go.Operand.const (Go.Value.int Go.IntKind.i64 9)) 28, type := 4, pos := "crowd.go:92", after := #[{ on := 6, ground := Go.Ground.data }], guard := none }) (v := ?_) rfl (by kernel_rfl) (by kernel_rfl) (by kernel_rfl) (fun _ _ _ h => h) (Or.inl ⟨by rfl, ?_⟩) hHeld ?_
        rotate_left
        · intro w hSw
          (try dsimp only at hSw)
          go_simp
          all_goals (with_reducible rfl)
        try simp only [Act.put, List.setIfInBounds_toArray, List.set_cons_zero, List.set_cons_succ]
        refine wpAnyH_ready (rs := [8]) (by kernel_rfl) (by simp) ?_
        refine (AllReadyH.cons (o := { dst := none, op := Go.Op.mapUpdate 135 (Go.Operand.tmp 65) (Go.Operand.tmp 66) (Go.Operand.tmp 69), type := 0, pos := "crowd.go:92", after := #[{ on := 3, ground := Go.Ground.data }, { on := 4, ground := Go.Ground.data }, { on := 7, ground := Go.Ground.data }, { on := 0, ground := Go.Ground.phase }, { on := 1, ground := Go.Ground.phase }, { on := 2, ground := Go.Ground.phase }, { on := 3, ground := Go.Ground.phase }, { on := 4, ground := Go.Ground.phase }, { on := 5, ground := Go.Ground.phase }, { on := 6, ground := Go.Ground.phase }, { on := 7, ground := Go.Ground.phase }], guard := none }) rfl (fun K hK => ?_) AllReadyH.nil)
        go_simp
        refine hK.out _ _ (by exact HS.out _ Hk1.out) (fun hHeld => ?_)
        clear hK K
        try simp only [List.setIfInBounds_toArray, List.set_cons_zero, List.set_cons_succ]
        refine wpAnyH_done (by kernel_rfl) ?_ _
        go_wp2_with fail
        go_meet
        exact Hfin.out
      · obtain rfl : kd = 10 := by omega
        obtain ⟨m, qm, hmb, hmf, hmp, hback⟩ := crd_mutes (HcX.out.ext ((Keeps.refl _ _).drew))
        obtain ⟨W1, P1, hm1, hk1, _⟩ := hmp.put Tryz.underlying135 (e.person, e.text) false
        have P1' : (Instr.mapUpdate 135 (.map (some m)) (.agg #[.string e.person, .string e.text]) (.bool false)).run Tryz.prog X.drew = .ok () W1 := P1
        obtain ⟨fp1, hc1, ht1⟩ := hback W1 _ hm1 hk1
        have hmw := Hfl.out m hmf
        have hkx : Keeps (fun g => g ≠ m) X W1 := ⟨hk1.os, hk1.tape, hk1.output, hk1.size, hk1.block⟩
        have Hfin := Lib.hid (show (∃ fp1, CrdAt W1 b fp1 (crdKind c e) ∧ Turned fp fp1 X W1) ∧ W1.heap[g3]? = some (.cells #[.string e.src, .int .i64 e.num, .int .i64 e.tick, .int .i64 e.kind, .string e.person, .string e.item, .int .i64 e.value, .string e.text] 30) ∧ W1.heap[g4]? = some (.cells #[.string e.person, .string e.item] 201) from ⟨⟨fp1, by rw [kind_mutes (by rw [← HkdE.out]; decide) (by first | (rw [← HkdE.out]; done) | (rw [← HkdE.out]; rfl))]; exact hc1, (Turned.of_ext ((Keeps.refl _ _).drew)).trans ht1⟩, hkx.blk H3.out (by omega), hkx.blk H4.out (by omega)⟩)
        have HS := Lib.hid (fun (w' : World) (hk : Keeps (fun g => g = b ∨ g = g3 ∨ g = g5) X w') => show w'.cell? ⟨b, 15, none⟩ = some (.map (some m)) ∧ w'.cell? ⟨g5, 0, none⟩ = some (.string e.person) ∧ w'.cell? ⟨g5, 1, none⟩ = some (.string e.text) ∧ w'.cell? ⟨g3, 3, none⟩ = some (.int .i64 10) from ⟨(hk.cell (p := ⟨b, 15, none⟩) hbX (.inl rfl)).trans qm, blk_cell (hk.blk H5.out (.inr (.inr rfl))) 0 rfl, blk_cell (hk.blk H5.out (.inr (.inr rfl))) 1 rfl, (by rw [HkdE.out]; exact blk_cell (hk.blk H3.out (.inr (.inl rfl))) 3 rfl)⟩)
        have Hk1 := Lib.hid (show Keeps (fun g => g = b ∨ g = g3 ∨ g = g5) X W1 from hkx.mono (fun g _ hg => by rcases hg with rfl | rfl | rfl; exact hmb.symm; omega; omega))
        clear P1 hm1 hk1 hc1 ht1 hback hmp qm hkx
        go_upto_region 16 with fail
        refine wp_region_held_drew (S := fun w' => w'.cell? ⟨b, 15, none⟩ = some (.map (some m)) ∧ w'.cell? ⟨g5, 0, none⟩ = some (.string e.person) ∧ w'.cell? ⟨g5, 1, none⟩ = some (.string e.text) ∧ w'.cell? ⟨g3, 3, none⟩ = some (.int .i64 10)) (by kernel_rfl) (by exact HS.out X.drew ((Keeps.refl _ _).drew)) (fun hHeld => ?_)
        change wpAnyH _ _ _ _ _ _ #[false, false, false, false, false, false, false, false, false] _ _
        refine wpAnyH_take (i := 0) (oi := { dst := some 62, op := Go.Op.move (Go.Operand.tmp 0), type := 55, pos := "crowd.go:92", after := #[], guard := none }) (v := ?_) rfl (by kernel_rfl) (by kernel_rfl) (by kernel_rfl) (fun _ _ _ h => h) (Or.inl ⟨by rfl, ?_⟩) hHeld ?_
        rotate_left
        · intro w hSw
          (try dsimp only at hSw)
          go_simp
          all_goals (with_reducible rfl)
        try simp only [Act.put, List.setIfInBounds_toArray, List.set_cons_zero, List.set_cons_succ]
        refine wpAnyH_take (i := 1) (oi := { dst := some 63, op := Go.Op.nilCheck (Go.Operand.tmp 62), type := 0, pos := "crowd.go:92", after := #[{ on := 0, ground := Go.Ground.data }], guard := none }) (v := ?_) rfl (by kernel_rfl) (by kernel_rfl) (by kernel_rfl) (fun _ _ _ h => h) (Or.inl ⟨by rfl, ?_⟩) hHeld ?_
        rotate_left
        · intro w hSw
          (try dsimp only at hSw)
          go_simp
          all_goals (with_reducible rfl)
        try simp only [Act.put, List.setIfInBounds_toArray, List.set_cons_zero, List.set_cons_succ]
        refine wpAnyH_take (i := 2) (oi := { dst := some 64, op := Go.Op.fieldAddr 139 (Go.Operand.tmp 63) 8, type := 0, pos := "crowd.go:92", after := #[{ on := 1, ground := Go.Ground.data }], guard := none }) (v := ?_) rfl (by kernel_rfl) (by kernel_rfl) (by kernel_rfl) (fun _ _ _ h => h) (Or.inl ⟨by rfl, ?_⟩) hHeld ?_
        rotate_left
        · intro w hSw
          (try dsimp only at hSw)
          go_simp
          all_goals (with_reducible rfl)
        try simp only [Act.put, List.setIfInBounds_toArray, List.set_cons_zero, List.set_cons_succ]
        refine wpAnyH_take (i := 3) (oi := { dst := some 65, op := Go.Op.load 135 (Go.Operand.tmp 64), type := 135, pos := "crowd.go:92", after := #[{ on := 2, ground := Go.Ground.data }], guard := none }) (v := ?_) rfl (by kernel_rfl) (by kernel_rfl) (by kernel_rfl) (fun _ _ _ h => h) (Or.inl ⟨by rfl, ?_⟩) hHeld ?_
        rotate_left
        · intro w hSw
          (try dsimp only at hSw)
          go_simp
          all_goals (with_reducible rfl)
        try simp only [Act.put, List.setIfInBounds_toArray, List.set_cons_zero, List.set_cons_succ]
        refine wpAnyH_take (i := 4) (oi := { dst := some 66, op := Go.Op.load 201 (Go.Operand.tmp 5), type := 201, pos := "crowd.go:92", after := #[], guard := none }) (v := ?_) rfl (by kernel_rfl) (by kernel_rfl) (by kernel_rfl) (fun _ _ _ h => h) (Or.inl ⟨by rfl, ?_⟩) hHeld ?_
        rotate_left
        · intro w hSw
          (try dsimp only at hSw)
          go_simp
          all_goals (with_reducible rfl)
        try simp only [Act.put, List.setIfInBounds_toArray, List.set_cons_zero, List.set_cons_succ]
        refine wpAnyH_take (i := 5) (oi := { dst := some 67, op := Go.Op.fieldAddr 30 (Go.Operand.tmp 3) 3, type := 0, pos := "crowd.go:92", after := #[], guard := none }) (v := ?_) rfl (by kernel_rfl) (by kernel_rfl) (by kernel_rfl) (fun _ _ _ h => h) (Or.inl ⟨by rfl, ?_⟩) hHeld ?_
        rotate_left
        · intro w hSw
          (try dsimp only at hSw)
          go_simp
          all_goals (with_reducible rfl)
        try simp only [Act.put, List.setIfInBounds_toArray, List.set_cons_zero, List.set_cons_succ]
        refine wpAnyH_take (i := 6) (oi := { dst := some 68, op := Go.Op.load 28 (Go.Operand.tmp 67), type := 28, pos := "crowd.go:92", after := #[{ on := 5, ground := Go.Ground.data }], guard := none }) (v := ?_) rfl (by kernel_rfl) (by kernel_rfl) (by kernel_rfl) (fun _ _ _ h => h) (Or.inl ⟨by rfl, ?_⟩) hHeld ?_
        rotate_left
        · intro w hSw
          (try dsimp only at hSw)
          go_simp
          all_goals (with_reducible rfl)
        try simp only [Act.put, List.setIfInBounds_toArray, List.set_cons_zero, List.set_cons_succ]
        refine wpAnyH_take (i := 7) (oi := { dst := some 69, op := Go.Op.binOp Go.BinOp.eql 28 (Go.Operand.tmp 68) (Go.Operand.const (Go.Value.int Go.IntKind.i64 9)) 28, type := 4, pos := "crowd.go:92", after := #[{ on := 6, ground := Go.Ground.data }], guard := none }) (v := ?_) rfl (by kernel_rfl) (by kernel_rfl) (by kernel_rfl) (fun _ _ _ h => h) (Or.inl ⟨by rfl, ?_⟩) hHeld ?_
        rotate_left
        · intro w hSw
          (try dsimp only at hSw)
          go_simp
          all_goals (with_reducible rfl)
        try simp only [Act.put, List.setIfInBounds_toArray, List.set_cons_zero, List.set_cons_succ]
        refine wpAnyH_ready (rs := [8]) (by kernel_rfl) (by simp) ?_
        refine (AllReadyH.cons (o := { dst := none, op := Go.Op.mapUpdate 135 (Go.Operand.tmp 65) (Go.Operand.tmp 66) (Go.Operand.tmp 69), type := 0, pos := "crowd.go:92", after := #[{ on := 3, ground := Go.Ground.data }, { on := 4, ground := Go.Ground.data }, { on := 7, ground := Go.Ground.data }, { on := 0, ground := Go.Ground.phase }, { on := 1, ground := Go.Ground.phase }, { on := 2, ground := Go.Ground.phase }, { on := 3, ground := Go.Ground.phase }, { on := 4, ground := Go.Ground.phase }, { on := 5, ground := Go.Ground.phase }, { on := 6, ground := Go.Ground.phase }, { on := 7, ground := Go.Ground.phase }], guard := none }) rfl (fun K hK => ?_) AllReadyH.nil)
        go_simp
        refine hK.out _ _ (by exact HS.out _ Hk1.out) (fun hHeld => ?_)
        clear hK K
        try simp only [List.setIfInBounds_toArray, List.set_cons_zero, List.set_cons_succ]
        refine wpAnyH_done (by kernel_rfl) ?_ _
        go_wp2_with fail
        go_meet
        exact Hfin.out
    case rest =>
      obtain ⟨⟨fp1, hc1, ht1⟩, h3, h4⟩ := hcut
      obtain ⟨Y, hY⟩ : ∃ Y, Y = wc := ⟨_, rfl⟩
      rw [← hY] at hc1 ht1 h3 h4 ⊢
      clear hY c3
      obtain ⟨n, hn⟩ : ∃ n, n = worthE e := ⟨_, rfl⟩
      have CW := Lib.hid (fun (W : World) => show Calls Tryz.prog 81 #[.agg #[.string e.src, .int .i64 e.num, .int .i64 e.tick, .int .i64 e.kind, .string e.person, .string e.item, .int .i64 e.value, .string e.text]] W (fun r w' => r = .returned (.int .i64 n) ∧ Ext W w') by rw [hn]; exact ev_Worth e W)
      have q0 : Y.cell? ⟨g3, 0, none⟩ = some (.string e.src) := blk_cell h3 0 rfl
      have q1 : Y.cell? ⟨g3, 1, none⟩ = some (.int .i64 e.num) := blk_cell h3 1 rfl
      have q2 : Y.cell? ⟨g3, 2, none⟩ = some (.int .i64 e.tick) := blk_cell h3 2 rfl
      have q3 : Y.cell? ⟨g3, 3, none⟩ = some (.int .i64 e.kind) := blk_cell h3 3 rfl
      have q4 : Y.cell? ⟨g3, 4, none⟩ = some (.string e.person) := blk_cell h3 4 rfl
      have q5 : Y.cell? ⟨g3, 5, none⟩ = some (.string e.item) := blk_cell h3 5 rfl
      have q6 : Y.cell? ⟨g3, 6, none⟩ = some (.int .i64 e.value) := blk_cell h3 6 rfl
      have q7 : Y.cell? ⟨g3, 7, none⟩ = some (.string e.text) := blk_cell h3 7 rfl
      have r0 : Y.cell? ⟨g4, 0, none⟩ = some (.string e.person) := blk_cell h4 0 rfl
      have r1 : Y.cell? ⟨g4, 1, none⟩ = some (.string e.item) := blk_cell h4 1 rfl
      obtain ⟨hkl, hkf⟩ := kind_liked c e
      obtain ⟨c1, hc1e⟩ : ∃ c1, c1 = crdKind c e := ⟨_, rfl⟩
      have Hnote := Lib.hid (show crdNote c e = crdLike c1 e by rw [hc1e]; rfl)
      rw [← hc1e] at hc1 hkl hkf
      have hf0 : 0 ≤ fanL c1.fans e.item := by rw [hkf]; exact hf0
      have hf1 : fanL c1.fans e.item ≤ 1048576 := by rw [hkf]; exact hf1
      clear hkl hkf hc1e
      obtain ⟨m, qm, hmb, hmf, hmp, hback⟩ := crd_liked hc1
      obtain ⟨bl, hbl⟩ : ∃ bl, bl = setL c1.liked (e.person, e.item) := ⟨_, rfl⟩
      have L := Lib.hid (fun (y : XW Y) => show (Instr.lookup 135 (.map (some m)) (.agg #[.string e.person, .string e.item]) false).run Tryz.prog y.w = .ok (.bool bl) y.w by rw [hbl]; exact (hmp.ext y.h).look1 (z := false) Tryz.underlying135 (zero_bo y.w) (e.person, e.item))
      have Hfl1 := Lib.hid ((boxOb 139 crdC _ Crd.sub).lt hc1)
      have HC1 := Lib.hid hc1
      have HT1 := Lib.hid ht1
      have H3Y := Lib.hid h3
      have H4Y := Lib.hid h4
      have Hbl := Lib.hid hbl
      have Hn := Lib.hid hn
      have hmY := hmp.lt
      have hbY : b < Y.heap.size := Nat.lt_of_lt_of_le hbX HT1.out.keeps.size
      have hg3Y : g3 < Y.heap.size := (Array.getElem?_eq_some_iff.1 H3Y.out).1
      have hg4Y : g4 < Y.heap.size := (Array.getElem?_eq_some_iff.1 H4Y.out).1
      clear hc1 ht1 h3 h4 hn hbl hback hmp
      by_cases hw : 0 < n
      · cases hbb : bl
        · subst hbb
          have hxs3 : g3 < X.heap.size := (Array.getElem?_eq_some_iff.1 H3.out).1
          have hxs4 : g4 < X.heap.size := (Array.getElem?_eq_some_iff.1 H4.out).1
          have hnf : ∀ g, w.heap.size ≤ g → g < X.heap.size → g ∉ fp1 := fun g hg1 hg2 hm => by
            rcases HT1.out.grew g hm with h9 | h9
            · have := Hfl.out g h9; omega
            · omega
          have Hnf := Lib.hid hnf
          have Hd := Lib.hid (show crdNote c e = { c1 with liked := putM (fun a b : Twt => a.1 == b.1 && a.2 == b.2) c1.liked (e.person, e.item) true, fans := putM (fun a b : ByteArray => a == b) c1.fans e.item (fanL c1.fans e.item + 1) } by rw [Hnote.out]; unfold crdLike; rw [if_pos ⟨by rw [← Hn.out]; exact hw, Hbl.out.symm⟩])
          clear hnf
          go_upto_region 17 with fail
          refine wp_region_ext Y (Keeps.refl _ _) (by kernel_rfl) (by kernel_rfl) ?_
          have hcell := fun (y : XW Y) => y.cell
          have kz := L.out
          repeat (go_big_quiet_step ((go_at_call 81; with_reducible exact ext_calls (CW.out _))))
          refine wpQuiet_nil ?_
          rintro _ ⟨y, rfl⟩
          clear kz hcell
          obtain ⟨Z, hZ⟩ : ∃ Z, Z = y.w := ⟨_, rfl⟩
          have HxZ := Lib.hid (show Ext Y Z by rw [hZ]; exact y.h)
          rw [← hZ]
          clear hZ y L qm q0 q1 q2 q3 q4 q5 q6 q7 r0 r1 hmb hmf hmY
          obtain ⟨m1, qm1, hmb1, hmf1, hmp1, hback1⟩ := crd_liked (HC1.out.ext (HxZ.out.trans ((Keeps.refl _ _).drew)))
          obtain ⟨W1, P1, hm1, hk1, _⟩ := hmp1.put Tryz.underlying135 (e.person, e.item) true
          have P1' : (Instr.mapUpdate 135 (.map (some m1)) (.agg #[.string e.person, .string e.item]) (.bool true)).run Tryz.prog Z.drew = .ok () W1 := P1
          obtain ⟨fp2, hc2, ht2⟩ := hback1 W1 _ hm1 hk1
          have hkx : Keeps (fun g => g ≠ m1) Z W1 := ⟨hk1.os, hk1.tape, hk1.output, hk1.size, hk1.block⟩
          have hm13 : g3 ≠ m1 := fun e => Hnf.out g3 hgw3 hxs3 (by rw [e]; exact hmf1)
          have hm14 : g4 ≠ m1 := fun e => Hnf.out g4 hgw4 hxs4 (by rw [e]; exact hmf1)
          have h3Z := HxZ.out.blk H3Y.out
          have h4Z := HxZ.out.blk H4Y.out
          have H3Z := Lib.hid h3Z
          have H4Z := Lib.hid h4Z
          have H3W := Lib.hid (hkx.blk h3Z hm13)
          have hbZ : b < Z.heap.size := Nat.lt_of_lt_of_le hbY HxZ.out.size
          have HS := Lib.hid (fun (w' : World) (hk : Keeps (fun g => g = b ∨ g = g3 ∨ g = g4) Z w') => show w'.cell? ⟨b, 16, none⟩ = some (.map (some m1)) ∧ w'.cell? ⟨g4, 0, none⟩ = some (.string e.person) ∧ w'.cell? ⟨g4, 1, none⟩ = some (.string e.item) from ⟨(hk.cell (p := ⟨b, 16, none⟩) hbZ (.inl rfl)).trans qm1, blk_cell (hk.blk H4Z.out (.inr (.inr rfl))) 0 rfl, blk_cell (hk.blk H4Z.out (.inr (.inr rfl))) 1 rfl⟩)
          have Hk1 := Lib.hid (show Keeps (fun g => g = b ∨ g = g3 ∨ g = g4) Z W1 from hkx.mono (fun g _ hg => by rcases hg with rfl | rfl | rfl; exact hmb1.symm; exact hm13; exact hm14))
          have HC2 := Lib.hid hc2
          have HT2 := Lib.hid ((Turned.of_ext (HxZ.out.trans ((Keeps.refl _ _).drew))).trans ht2)
          clear P1 hm1 hk1 hc2 ht2 hback1 hmp1 qm1 hkx h3Z h4Z
          go_upto_region 18 with fail
          refine wp_region_held_drew (S := fun w' => w'.cell? ⟨b, 16, none⟩ = some (.map (some m1)) ∧ w'.cell? ⟨g4, 0, none⟩ = some (.string e.person) ∧ w'.cell? ⟨g4, 1, none⟩ = some (.string e.item)) (by kernel_rfl) (by exact HS.out Z.drew ((Keeps.refl _ _).drew)) (fun hHeld => ?_)
          change wpAnyH _ _ _ _ _ _ #[false, false, false, false, false, false] _ _
          refine wpAnyH_take (i := 0) (oi := { dst := some 82, op := Go.Op.move (Go.Operand.tmp 0), type := 55, pos := "crowd.go:95", after := #[], guard := none }) (v := ?_) rfl (by kernel_rfl) (by kernel_rfl) (by kernel_rfl) (fun _ _ _ h => h) (Or.inl ⟨by rfl, ?_⟩) hHeld ?_
          rotate_left
          · intro w hSw
            (try dsimp only at hSw)
            go_simp
            all_goals (with_reducible rfl)
          try simp only [Act.put, List.setIfInBounds_toArray, List.set_cons_zero, List.set_cons_succ]
          refine wpAnyH_take (i := 1) (oi := { dst := some 83, op := Go.Op.nilCheck (Go.Operand.tmp 82), type := 0, pos := "crowd.go:95", after := #[{ on := 0, ground := Go.Ground.data }], guard := none }) (v := ?_) rfl (by kernel_rfl) (by kernel_rfl) (by kernel_rfl) (fun _ _ _ h => h) (Or.inl ⟨by rfl, ?_⟩) hHeld ?_
          rotate_left
          · intro w hSw
            (try dsimp only at hSw)
            go_simp
            all_goals (with_reducible rfl)
          try simp only [Act.put, List.setIfInBounds_toArray, List.set_cons_zero, List.set_cons_succ]
          refine wpAnyH_take (i := 2) (oi := { dst := some 84, op := Go.Op.fieldAddr 139 (Go.Operand.tmp 83) 9, type := 0, pos := "crowd.go:95", after := #[{ on := 1, ground := Go.Ground.data }], guard := none }) (v := ?_) rfl (by kernel_rfl) (by kernel_rfl) (by kernel_rfl) (fun _ _ _ h => h) (Or.inl ⟨by rfl, ?_⟩) hHeld ?_
          rotate_left
          · intro w hSw
            (try dsimp only at hSw)
            go_simp
            all_goals (with_reducible rfl)
          try simp only [Act.put, List.setIfInBounds_toArray, List.set_cons_zero, List.set_cons_succ]
          refine wpAnyH_take (i := 3) (oi := { dst := some 85, op := Go.Op.load 135 (Go.Operand.tmp 84), type := 135, pos := "crowd.go:95", after := #[{ on := 2, ground := Go.Ground.data }], guard := none }) (v := ?_) rfl (by kernel_rfl) (by kernel_rfl) (by kernel_rfl) (fun _ _ _ h => h) (Or.inl ⟨by rfl, ?_⟩) hHeld ?_
          rotate_left
          · intro w hSw
            (try dsimp only at hSw)
            go_simp
            all_goals (with_reducible rfl)
          try simp only [Act.put, List.setIfInBounds_toArray, List.set_cons_zero, List.set_cons_succ]
          refine wpAnyH_take (i := 4) (oi := { dst := some 86, op := Go.Op.load 201 (Go.Operand.tmp 4), type := 201, pos := "crowd.go:95", after := #[], guard := none }) (v := ?_) rfl (by kernel_rfl) (by kernel_rfl) (by kernel_rfl) (fun _ _ _ h => h) (Or.inl ⟨by rfl, ?_⟩) hHeld ?_
          rotate_left
          · intro w hSw
            (try dsimp only at hSw)
            go_simp
            all_goals (with_reducible rfl)
          try simp only [Act.put, List.setIfInBounds_toArray, List.set_cons_zero, List.set_cons_succ]
          refine wpAnyH_ready (rs := [5]) (by kernel_rfl) (by simp) ?_
          refine (AllReadyH.cons (o := { dst := none, op := Go.Op.mapUpdate 135 (Go.Operand.tmp 85) (Go.Operand.tmp 86) (Go.Operand.const (Go.Value.bool true)), type := 0, pos := "crowd.go:95", after := #[{ on := 3, ground := Go.Ground.data }, { on := 4, ground := Go.Ground.data }, { on := 0, ground := Go.Ground.phase }, { on := 1, ground := Go.Ground.phase }, { on := 2, ground := Go.Ground.phase }, { on := 3, ground := Go.Ground.phase }, { on := 4, ground := Go.Ground.phase }], guard := none }) rfl (fun K hK => ?_) AllReadyH.nil)
          go_simp
          refine hK.out _ _ (by exact HS.out _ Hk1.out) (fun hHeld => ?_)
          clear hK K
          try simp only [List.setIfInBounds_toArray, List.set_cons_zero, List.set_cons_succ]
          refine wpAnyH_done (by kernel_rfl) ?_ _
          clear hHeld P1'
          obtain ⟨fn, hfn⟩ : ∃ fn, fn = fanL c1.fans e.item := ⟨_, rfl⟩
          have Hfn := Lib.hid hfn
          rw [← hfn] at hf0 hf1
          clear hfn
          obtain ⟨m2, qm2, hmb2, hmf2, hmp2, hback2⟩ := crd_fans (HC2.out.ext ((Keeps.refl _ _).drew))
          have L2 : (Instr.lookup 137 (.map (some m2)) (.string e.item) false).run Tryz.prog W1.drew = .ok (.int .i64 fn) W1.drew := by rw [Hfn.out]; exact hmp2.look1 (z := 0) Tryz.underlying137 (zero_in _) e.item
          obtain ⟨W2, P2, hm2, hk2, _⟩ := hmp2.put Tryz.underlying137 e.item (fn + 1)
          have P2' : (Instr.mapUpdate 137 (.map (some m2)) (.string e.item) (.int .i64 (IntKind.i64.wrap (fn + 1)))).run Tryz.prog W1.drew = .ok () W2 := by rw [show IntKind.i64.wrap (fn + 1) = fn + 1 from IntWalk.i64_in _ (by omega)]; exact P2
          obtain ⟨fp3, hc3, ht3⟩ := hback2 W2 _ hm2 hk2
          have hkx : Keeps (fun g => g ≠ m2) W1 W2 := ⟨hk2.os, hk2.tape, hk2.output, hk2.size, hk2.block⟩
          have hf2 : g3 ∉ fp2 := fun hm => by
            rcases HT2.out.grew g3 hm with h9 | h9
            · exact Hnf.out g3 hgw3 hxs3 h9
            · omega
          have hm23 : g3 ≠ m2 := fun e => hf2 (by rw [e]; exact hmf2)
          have hb1 : b < W1.heap.size := Nat.lt_of_lt_of_le hbZ Hk1.out.size
          have HS2 := Lib.hid (fun (w' : World) (hk : Keeps (fun g => g = b ∨ g = g3) W1 w') => show w'.cell? ⟨b, 17, none⟩ = some (.map (some m2)) ∧ w'.cell? ⟨g3, 5, none⟩ = some (.string e.item) from ⟨(hk.cell (p := ⟨b, 17, none⟩) hb1 (.inl rfl)).trans qm2, blk_cell (hk.blk H3W.out (.inr rfl)) 5 rfl⟩)
          have Hk2 := Lib.hid (show Keeps (fun g => g = b ∨ g = g3) W1 W2 from hkx.mono (fun g _ hg => by rcases hg with rfl | rfl; exact hmb2.symm; exact hm23))
          have Hfin := Lib.hid (show CrdAt W2 b fp3 (crdNote c e) ∧ Turned fp fp3 w W2 from ⟨by rw [Hd.out, ← Hfn.out]; exact hc3, (((Turned.of_ext HwX.out).trans HT1.out).trans HT2.out).trans ((Turned.of_ext ((Keeps.refl _ _).drew)).trans ht3)⟩)
          clear P2 hm2 hk2 hc3 ht3 hback2 hmp2 qm2 hkx
          go_upto_region 19 with fail
          refine wp_region_held_drew (S := fun w' => w'.cell? ⟨b, 17, none⟩ = some (.map (some m2)) ∧ w'.cell? ⟨g3, 5, none⟩ = some (.string e.item)) (by kernel_rfl) (by exact HS2.out W1.drew ((Keeps.refl _ _).drew)) (fun hHeld => ?_)
          change wpAnyH _ _ _ _ _ _ #[false, false, false, false, false, false, false, false, false] _ _
          refine wpAnyH_take (i := 0) (oi := { dst := some 87, op := Go.Op.move (Go.Operand.tmp 0), type := 55, pos := "crowd.go:96", after := #[], guard := none }) (v := ?_) rfl (by kernel_rfl) (by kernel_rfl) (by kernel_rfl) (fun _ _ _ h => h) (Or.inl ⟨by rfl, ?_⟩) hHeld ?_
          rotate_left
          · intro w hSw
            (try dsimp only at hSw)
            go_simp
            all_goals (with_reducible rfl)
          try simp only [Act.put, List.setIfInBounds_toArray, List.set_cons_zero, List.set_cons_succ]
          refine wpAnyH_take (i := 1) (oi := { dst := some 88, op := Go.Op.nilCheck (Go.Operand.tmp 87), type := 0, pos := "crowd.go:96", after := #[{ on := 0, ground := Go.Ground.data }], guard := none }) (v := ?_) rfl (by kernel_rfl) (by kernel_rfl) (by kernel_rfl) (fun _ _ _ h => h) (Or.inl ⟨by rfl, ?_⟩) hHeld ?_
          rotate_left
          · intro w hSw
            (try dsimp only at hSw)
            go_simp
            all_goals (with_reducible rfl)
          try simp only [Act.put, List.setIfInBounds_toArray, List.set_cons_zero, List.set_cons_succ]
          refine wpAnyH_take (i := 2) (oi := { dst := some 89, op := Go.Op.fieldAddr 139 (Go.Operand.tmp 88) 10, type := 0, pos := "crowd.go:96", after := #[{ on := 1, ground := Go.Ground.data }], guard := none }) (v := ?_) rfl (by kernel_rfl) (by kernel_rfl) (by kernel_rfl) (fun _ _ _ h => h) (Or.inl ⟨by rfl, ?_⟩) hHeld ?_
          rotate_left
          · intro w hSw
            (try dsimp only at hSw)
            go_simp
            all_goals (with_reducible rfl)
          try simp only [Act.put, List.setIfInBounds_toArray, List.set_cons_zero, List.set_cons_succ]
          refine wpAnyH_take (i := 3) (oi := { dst := some 90, op := Go.Op.load 137 (Go.Operand.tmp 89), type := 137, pos := "crowd.go:96", after := #[{ on := 2, ground := Go.Ground.data }], guard := none }) (v := ?_) rfl (by kernel_rfl) (by kernel_rfl) (by kernel_rfl) (fun _ _ _ h => h) (Or.inl ⟨by rfl, ?_⟩) hHeld ?_
          rotate_left
          · intro w hSw
            (try dsimp only at hSw)
            go_simp
            all_goals (with_reducible rfl)
          try simp only [Act.put, List.setIfInBounds_toArray, List.set_cons_zero, List.set_cons_succ]
          refine wpAnyH_take (i := 4) (oi := { dst := some 91, op := Go.Op.fieldAddr 30 (Go.Operand.tmp 3) 5, type := 0, pos := "crowd.go:96", after := #[], guard := none }) (v := ?_) rfl (by kernel_rfl) (by kernel_rfl) (by kernel_rfl) (fun _ _ _ h => h) (Or.inl ⟨by rfl, ?_⟩) hHeld ?_
          rotate_left
          · intro w hSw
            (try dsimp only at hSw)
            go_simp
            all_goals (with_reducible rfl)
          try simp only [Act.put, List.setIfInBounds_toArray, List.set_cons_zero, List.set_cons_succ]
          refine wpAnyH_take (i := 5) (oi := { dst := some 92, op := Go.Op.load 9 (Go.Operand.tmp 91), type := 9, pos := "crowd.go:96", after := #[{ on := 4, ground := Go.Ground.data }], guard := none }) (v := ?_) rfl (by kernel_rfl) (by kernel_rfl) (by kernel_rfl) (fun _ _ _ h => h) (Or.inl ⟨by rfl, ?_⟩) hHeld ?_
          rotate_left
          · intro w hSw
            (try dsimp only at hSw)
            go_simp
            all_goals (with_reducible rfl)
          try simp only [Act.put, List.setIfInBounds_toArray, List.set_cons_zero, List.set_cons_succ]
          refine wpAnyH_ready (rs := [6]) (by kernel_rfl) (by simp) ?_
          refine (AllReadyH.cons (o := { dst := some 93, op := Go.Op.lookup 137 (Go.Operand.tmp 90) (Go.Operand.tmp 92) false, type := 3, pos := "crowd.go:96", after := #[{ on := 3, ground := Go.Ground.data }, { on := 5, ground := Go.Ground.data }], guard := none }) rfl (fun K hK => ?_) AllReadyH.nil)
          go_simp
          refine hK.out _ _ (by exact HS2.out W1.drew ((Keeps.refl _ _).drew)) (fun hHeld => ?_)
          clear hK K
          try simp only [List.setIfInBounds_toArray, List.set_cons_zero, List.set_cons_succ]
          refine wpAnyH_take (i := 7) (oi := { dst := some 94, op := Go.Op.binOp Go.BinOp.add 3 (Go.Operand.tmp 93) (Go.Operand.const (Go.Value.int Go.IntKind.i64 1)) 3, type := 3, pos := "crowd.go:96", after := #[{ on := 6, ground := Go.Ground.data }], guard := none }) (v := ?_) rfl (by kernel_rfl) (by kernel_rfl) (by kernel_rfl) (fun _ _ _ h => h) (Or.inl ⟨by rfl, ?_⟩) hHeld ?_
          rotate_left
          · intro w hSw
            (try dsimp only at hSw)
            go_simp
            all_goals (with_reducible rfl)
          try simp only [Act.put, List.setIfInBounds_toArray, List.set_cons_zero, List.set_cons_succ]
          refine wpAnyH_ready (rs := [8]) (by kernel_rfl) (by simp) ?_
          refine (AllReadyH.cons (o := { dst := none, op := Go.Op.mapUpdate 137 (Go.Operand.tmp 90) (Go.Operand.tmp 92) (Go.Operand.tmp 94), type := 0, pos := "crowd.go:96", after := #[{ on := 3, ground := Go.Ground.data }, { on := 5, ground := Go.Ground.data }, { on := 7, ground := Go.Ground.data }, { on := 0, ground := Go.Ground.phase }, { on := 1, ground := Go.Ground.phase }, { on := 2, ground := Go.Ground.phase }, { on := 3, ground := Go.Ground.phase }, { on := 4, ground := Go.Ground.phase }, { on := 5, ground := Go.Ground.phase }, { on := 6, ground := Go.Ground.phase }, { on := 7, ground := Go.Ground.phase }], guard := none }) rfl (fun K hK => ?_) AllReadyH.nil)
          go_simp
          refine hK.out _ _ (by exact HS2.out _ Hk2.out) (fun hHeld => ?_)
          clear hK K
          try simp only [List.setIfInBounds_toArray, List.set_cons_zero, List.set_cons_succ]
          refine wpAnyH_done (by kernel_rfl) ?_ _
          go_wp2_with fail
          exact ⟨rfl, .tuple #[], by simp [results, Tryz.results103], rfl, fp3, Hfin.out⟩
        · subst hbb
          have Hd := Lib.hid (show crdNote c e = c1 by rw [Hnote.out]; unfold crdLike; rw [if_neg (fun h => by rw [← Hbl.out] at h; cases h.2)])
          go_upto_region 17 with fail
          refine wp_region_ext Y (Keeps.refl _ _) (by kernel_rfl) (by kernel_rfl) ?_
          have hcell := fun (y : XW Y) => y.cell
          have kz := L.out
          repeat (go_big_quiet_step ((go_at_call 81; with_reducible exact ext_calls (CW.out _))))
          refine wpQuiet_nil ?_
          rintro _ ⟨y, rfl⟩
          clear kz hcell
          go_wp2_with fail
          exact ⟨rfl, .tuple #[], by simp [results, Tryz.results103], rfl, fp1, by rw [Hd.out]; exact HC1.out.ext y.h, ((Turned.of_ext HwX.out).trans HT1.out).ext_r y.h⟩
      · have Hd := Lib.hid (show crdNote c e = c1 by rw [Hnote.out]; unfold crdLike; rw [if_neg (fun h => hw (by rw [Hn.out]; exact h.1))])
        go_upto_region 17 with fail
        refine wp_region_ext Y (Keeps.refl _ _) (by kernel_rfl) (by kernel_rfl) ?_
        have hcell := fun (y : XW Y) => y.cell
        have kz := L.out
        repeat (go_big_quiet_step ((go_at_call 81; with_reducible exact ext_calls (CW.out _))))
        refine wpQuiet_nil ?_
        rintro _ ⟨y, rfl⟩
        clear kz hcell
        go_wp2_with fail
        exact ⟨rfl, .tuple #[], by simp [results, Tryz.results103], rfl, fp1, by rw [Hd.out]; exact HC1.out.ext y.h, ((Turned.of_ext HwX.out).trans HT1.out).ext_r y.h⟩
end Go.Proofs.YtpkkkhgmkndpdaaGreatDoor
namespace Go.Proofs.YtpkkkhgmkndpdaaGreatDoor
open Go Go.RowKit Go.Proofs
attribute [local go_sem ↓] Go.wp_at_zero Go.wp_at_succ
/-- Tags that are names, each once. -/
def tagStep (out : List ByteArray) (t : ByteArray) : List ByteArray := if nameB t && !out.any (fun y => t == y) then out ++ [t] else out
def tagsK (l : List ByteArray) : List ByteArray := l.foldl tagStep []
theorem tagsK_snoc {l : List ByteArray} {k : Nat} {t : ByteArray} (h : l[k]? = some t) : tagsK (l.take (k + 1)) = tagStep (tagsK (l.take k)) t := by
  unfold tagsK; rw [List.take_add_one, h]; simp
theorem tagsK_len (l : List ByteArray) : (tagsK l).length ≤ l.length := by
  suffices ∀ (l out : List ByteArray), (l.foldl tagStep out).length ≤ out.length + l.length by
    have := this l []
    simpa [tagsK] using this
  intro l
  induction l with
  | nil => intro out; simp
  | cons x l ih =>
    intro out
    have h1 := ih (tagStep out x)
    have h2 : (tagStep out x).length ≤ out.length + 1 := by unfold tagStep; split <;> simp
    simp only [List.foldl_cons, List.length_cons]
    omega
def rowD (l : List (ByteArray × List Deed)) (p : ByteArray) : List Deed := (getM (fun a b : ByteArray => a == b) l p).getD []
def crdPut (c : Crd) (e : Ev) (tags : List ByteArray) : Crd := { c with applied := c.applied + 1, last := e, people := putM (fun a b : ByteArray => a == b) c.people e.person (rowD c.people e.person ++ [⟨e, tagsK tags⟩]) }
def crdAdd (c : Crd) (e : Ev) (tags : List ByteArray) : Crd := crdNote (crdPut c e tags) e
theorem info_deed : (Tryz.prog.info? 167).map (fun i => (i.zero, i.size, i.bytes)) = some (some (.agg #[.string ⟨#[]⟩, .int .i64 0, .int .i64 0, .int .i64 0, .string ⟨#[]⟩, .string ⟨#[]⟩, .int .i64 0, .string ⟨#[]⟩, .slice none 0 0]), 9, 120) := by kernel_rfl
theorem info_strD : (Tryz.prog.info? 9).map (fun i => (i.zero, i.size, i.bytes)) = some (some (.string ⟨#[]⟩), 1, 16) := by kernel_rfl
theorem info_of3 {t : TypeId} {z : Option Value} {a b : Nat} (h : (Tryz.prog.info? t).map (fun i => (i.zero, i.size, i.bytes)) = some (z, a, b)) : ∃ i, Tryz.prog.info? t = some i ∧ i.zero = z ∧ i.size = a ∧ i.bytes = b := by
  cases hi : Tryz.prog.info? t with
  | none => rw [hi] at h; cases h
  | some i => rw [hi] at h; simp at h; exact ⟨i, rfl, h.1, h.2.1, h.2.2⟩
theorem zero_sd (w : World) : (zeroValue 168).run Tryz.prog w = .ok (.slice none 0 0) w := by kernel_rfl
theorem crd_last {Y : World} {b : Nat} {h : CrdH} {c : Crd} {e : Ev} {u : Value} {t : TypeId} (hb : Y.heap[b]? = some (.cells (crdC c h) t)) (hu : u = .int .i64 ((c.applied + 1 : Nat) : Int)) :
    (((((((((Y.setCell ⟨b, 1, none⟩ u).setCell ⟨b, 2, none⟩ (.string e.src)).setCell ⟨b, 3, none⟩ (.int .i64 e.num)).setCell ⟨b, 4, none⟩ (.int .i64 e.tick)).setCell ⟨b, 5, none⟩ (.int .i64 e.kind)).setCell ⟨b, 6, none⟩ (.string e.person)).setCell ⟨b, 7, none⟩ (.string e.item)).setCell ⟨b, 8, none⟩ (.int .i64 e.value)).setCell ⟨b, 9, none⟩ (.string e.text)).heap[b]? = some (.cells (crdC { c with applied := c.applied + 1, last := e } h) t) := by
  subst hu
  have h9 := blk_set (blk_set (blk_set (blk_set (blk_set (blk_set (blk_set (blk_set (blk_set hb 1 (.int .i64 ((c.applied + 1 : Nat) : Int))) 2 (.string e.src)) 3 (.int .i64 e.num)) 4 (.int .i64 e.tick)) 5 (.int .i64 e.kind)) 6 (.string e.person)) 7 (.string e.item)) 8 (.int .i64 e.value)) 9 (.string e.text)
  simp only [crdC, List.setIfInBounds_toArray, List.set_cons_zero, List.set_cons_succ] at h9
  exact h9
/-- The deed in its box, its tags a row of the call's own. -/
structure DeedBox (X : World) (e : Ev) (g7 : Nat) (l : List ByteArray) (wr : World) : Prop where
  ex : ∃ v, wr.heap[g7]? = some (.cells (#[.string e.src, .int .i64 e.num, .int .i64 e.tick, .int .i64 e.kind, .string e.person, .string e.item, .int .i64 e.value, .string e.text, v]) 167) ∧ Own strR 9 (fun _ => True) wr (X.heap.size + 1) v l.length l
  ext : Ext X wr
set_option maxRecDepth 100000 in
set_option maxHeartbeats 2000000 in
theorem crd_Apply (b : Nat) (fp : List Nat) (c : Crd) (e : Ev) (A : Option Addr) (n ct : Nat) (tags : List ByteArray) (ok : Nat → Prop) (w : World) (h : CrdAt w b fp c) (hs : Sl strR ok w A n tags) (hok : ∀ g, ok g → g ∉ fp) (hn : n ≤ 1000000) (htz : ∀ t ∈ tags, t.size ≤ 1000000) (hm : Mx w) (hsm : EvSm e) (hmay : mayE e = true) (hk0 : 0 ≤ e.kind) (hk1 : e.kind ≤ 10) (hord : c.applied = 0 ∨ cmpE e c.last = 1) (hap : c.applied < 1048576)
    (hlen : (rowD c.people e.person).length ≤ 1048576) (hs0 : 0 ≤ cntL c.shown (e.person, e.item)) (hs1 : cntL c.shown (e.person, e.item) ≤ 1048576) (hf0 : 0 ≤ fanL c.fans e.item) (hf1 : fanL c.fans e.item ≤ 1048576) :
    Calls Tryz.prog 80 #[.pointer (some ⟨b, 0, none⟩), .agg #[.string e.src, .int .i64 e.num, .int .i64 e.tick, .int .i64 e.kind, .string e.person, .string e.item, .int .i64 e.value, .string e.text], .slice A n ct] w fun r w' => r = .returned (.bool true) ∧ ∃ fp', CrdAt w' b fp' (crdAdd c e tags) ∧ Turned fp fp' w w' := by
  have Hc := Lib.hid h
  have Hfl := Lib.hid ((boxOb 139 crdC _ Crd.sub).lt h)
  have HT := Lib.hid htz
  have Hs := Lib.hid hs
  have Hln := Lib.hid hs.1
  have Hord := Lib.hid hord
  have Hok := Lib.hid hok
  have hbfp : b ∈ fp := (BoxAt.focus h).choose_spec.choose_spec.2.2.2.2.1
  have hbw : b < w.heap.size := Hfl.out b hbfp
  obtain ⟨kd, hkd⟩ : ∃ k, k = e.kind := ⟨_, rfl⟩
  obtain ⟨g4, hg4⟩ : ∃ g, g = w.heap.size := ⟨_, rfl⟩
  obtain ⟨W0, hW0⟩ : ∃ W, W = w.alloc (.cells #[.string e.src, .int .i64 e.num, .int .i64 e.tick, .int .i64 e.kind, .string e.person, .string e.item, .int .i64 e.value, .string e.text] 30) := ⟨_, rfl⟩
  have hgb0 : W0.heap[g4]? = some (.cells #[.string e.src, .int .i64 e.num, .int .i64 e.tick, .int .i64 e.kind, .string e.person, .string e.item, .int .i64 e.value, .string e.text] 30) := by rw [hW0, hg4]; exact blk_new _ _
  have Hx0 := Lib.hid (show Ext w W0 by rw [hW0]; exact (Keeps.refl _ _).alloc _)
  have Hg4 := Lib.hid (show w.heap.size ≤ g4 by omega)
  have Hgb0 := Lib.hid hgb0
  have q3 : W0.cell? ⟨g4, 3, none⟩ = some (.int .i64 kd) := by rw [hkd]; exact blk_cell hgb0 3 rfl
  have HkdE := Lib.hid hkd
  have HM := Lib.hid (show Calls Tryz.prog 22 #[.agg #[.string e.src, .int .i64 e.num, .int .i64 e.tick, .int .i64 kd, .string e.person, .string e.item, .int .i64 e.value, .string e.text]] W0 (fun r w' => r = .returned (.bool true) ∧ Ext W0 w') by rw [hkd]; have h9 := ev_May e W0 hsm (hm.ext Hx0.out); rwa [hmay] at h9)
  have Hk0 := Lib.hid hk0
  have Hk1 := Lib.hid hk1
  rw [← hkd] at hk0 hk1
  have d11 : decide (kd = 11) = false := by simp; omega
  have d12 : decide (kd = 12) = false := by simp; omega
  have d13 : decide (kd = 13) = false := by simp; omega
  have d14 : decide (kd = 14) = false := by simp; omega
  obtain ⟨N, hN⟩ : ∃ N : Int, N = (c.applied : Int) := ⟨_, rfl⟩
  have HN := Lib.hid hN
  have hN0 : 0 ≤ N := by omega
  have hN1 : N < 1048576 := by omega
  have Hap := Lib.hid hap
  have Hsh := Lib.hid (And.intro hs0 hs1)
  have Hfa := Lib.hid (And.intro hf0 hf1)
  have Hle := Lib.hid hlen
  clear h hm hsm hmay hord hgb0 hkd hs hok htz hN hap hs0 hs1 hf0 hf1 hlen
  obtain ⟨hh, f, hb, hr, hff, hbf, _, hbX, hturn, hturn2⟩ := BoxAt.focus (Hc.out.ext Hx0.out)
  have HbX := Lib.hid hb
  have HrX := Lib.hid hr
  have Hturn2 := Lib.hid hturn2
  have q0 : W0.cell? ⟨g4, 0, none⟩ = some (.string e.src) := blk_cell Hgb0.out 0 rfl
  have q1 : W0.cell? ⟨g4, 1, none⟩ = some (.int .i64 e.num) := blk_cell Hgb0.out 1 rfl
  have q2 : W0.cell? ⟨g4, 2, none⟩ = some (.int .i64 e.tick) := blk_cell Hgb0.out 2 rfl
  have q4 : W0.cell? ⟨g4, 4, none⟩ = some (.string e.person) := blk_cell Hgb0.out 4 rfl
  have q5 : W0.cell? ⟨g4, 5, none⟩ = some (.string e.item) := blk_cell Hgb0.out 5 rfl
  have q6 : W0.cell? ⟨g4, 6, none⟩ = some (.int .i64 e.value) := blk_cell Hgb0.out 6 rfl
  have q7 : W0.cell? ⟨g4, 7, none⟩ = some (.string e.text) := blk_cell Hgb0.out 7 rfl
  clear hb hr hturn hturn2
  go_enter Tryz.func80, Tryz.ntmps80
  go_upto_region 1 with fail
  rw [← hW0, ← hg4]
  clear hW0 hg4
  go_wp2_with fail
  refine HM.out.mono ?_
  rintro _ X ⟨rfl, hx2⟩
  have HxX := Lib.hid hx2
  have H4X := Lib.hid (hx2.blk Hgb0.out)
  have HbbX := Lib.hid (hx2.blk HbX.out)
  have b1 : X.cell? ⟨b, 1, none⟩ = some (.int .i64 N) := by rw [HN.out]; exact blk_cell HbbX.out 1 rfl
  have p3 := blk_cell H4X.out 3 rfl
  rw [← HkdE.out] at p3
  clear hx2 q0 q1 q2 q3 q4 q5 q6 q7
  go_upto_region 9 with fail
  clear d11 d12 d13 d14 p3
  have HwX := Lib.hid (Hx0.out.trans HxX.out)
  have HCp := Lib.hid (fun (W : World) => ev_Compare e c.last W)
  have g4X : g4 < X.heap.size := (Array.getElem?_eq_some_iff.1 H4X.out).1
  have hbXs : b < X.heap.size := (Array.getElem?_eq_some_iff.1 HbbX.out).1
  have q0 : X.cell? ⟨g4, 0, none⟩ = some (.string e.src) := blk_cell H4X.out 0 rfl
  have q1 : X.cell? ⟨g4, 1, none⟩ = some (.int .i64 e.num) := blk_cell H4X.out 1 rfl
  have q2 : X.cell? ⟨g4, 2, none⟩ = some (.int .i64 e.tick) := blk_cell H4X.out 2 rfl
  have q3 : X.cell? ⟨g4, 3, none⟩ = some (.int .i64 e.kind) := blk_cell H4X.out 3 rfl
  have q4 : X.cell? ⟨g4, 4, none⟩ = some (.string e.person) := blk_cell H4X.out 4 rfl
  have q5 : X.cell? ⟨g4, 5, none⟩ = some (.string e.item) := blk_cell H4X.out 5 rfl
  have q6 : X.cell? ⟨g4, 6, none⟩ = some (.int .i64 e.value) := blk_cell H4X.out 6 rfl
  have q7 : X.cell? ⟨g4, 7, none⟩ = some (.string e.text) := blk_cell H4X.out 7 rfl
  have b2 : X.cell? ⟨b, 2, none⟩ = some (.string c.last.src) := blk_cell HbbX.out 2 rfl
  have b3 : X.cell? ⟨b, 3, none⟩ = some (.int .i64 c.last.num) := blk_cell HbbX.out 3 rfl
  have b4 : X.cell? ⟨b, 4, none⟩ = some (.int .i64 c.last.tick) := blk_cell HbbX.out 4 rfl
  have b5 : X.cell? ⟨b, 5, none⟩ = some (.int .i64 c.last.kind) := blk_cell HbbX.out 5 rfl
  have b6 : X.cell? ⟨b, 6, none⟩ = some (.string c.last.person) := blk_cell HbbX.out 6 rfl
  have b7 : X.cell? ⟨b, 7, none⟩ = some (.string c.last.item) := blk_cell HbbX.out 7 rfl
  have b8 : X.cell? ⟨b, 8, none⟩ = some (.int .i64 c.last.value) := blk_cell HbbX.out 8 rfl
  have b9 : X.cell? ⟨b, 9, none⟩ = some (.string c.last.text) := blk_cell HbbX.out 9 rfl
  go_cut [22, 40] (fun _ s40 wx => s40 = .bool false ∧ Ext X wx)
  case first =>
    by_cases hz : N = 0
    · subst hz
      refine wp_region_ext X (Keeps.refl _ _) (by kernel_rfl) (by kernel_rfl) ?_
      have hcell := fun (y : XW X) => y.cell
      repeat (go_big_quiet_step (fail))
      refine wpQuiet_nil ?_
      rintro _ ⟨y, rfl⟩
      go_wp2_with fail
      go_meet
      exact ⟨rfl, y.h⟩
    · have hz1 : 0 < N := by omega
      have hz2 : decide (0 < N) = true := by simp; omega
      have hc1 : cmpE e c.last = 1 := by
        rcases Hord.out with h9 | h9
        · exact absurd (by rw [HN.out, h9]; rfl) hz
        · exact h9
      have HC1 := Lib.hid (fun (W : World) => show Calls Tryz.prog 46 #[.agg #[.string e.src, .int .i64 e.num, .int .i64 e.tick, .int .i64 e.kind, .string e.person, .string e.item, .int .i64 e.value, .string e.text], .agg #[.string c.last.src, .int .i64 c.last.num, .int .i64 c.last.tick, .int .i64 c.last.kind, .string c.last.person, .string c.last.item, .int .i64 c.last.value, .string c.last.text]] W (fun r w' => r = .returned (.int .i64 1) ∧ Ext W w') by have h9 := HCp.out W; rwa [hc1] at h9)
      clear hc1
      refine wp_region_ext X (Keeps.refl _ _) (by kernel_rfl) (by kernel_rfl) ?_
      have hcell := fun (y : XW X) => y.cell
      repeat (go_big_quiet_step ((go_at_call 46; with_reducible exact ext_calls (HC1.out _))))
      refine wpQuiet_nil ?_
      rintro _ ⟨y, rfl⟩
      go_wp2_with fail
      go_meet
      exact ⟨rfl, y.h⟩
  case rest =>
    obtain ⟨h40, hxY⟩ := hcut
    subst h40
    obtain ⟨Y, hY⟩ : ∃ Y, Y = wc := ⟨_, rfl⟩
    rw [← hY] at hxY ⊢
    clear hY q0 q1 q2 q3 q4 q5 q6 q7 b1 b2 b3 b4 b5 b6 b7 b8 b9
    have H4Y := Lib.hid (hxY.blk H4X.out)
    have HbY := Lib.hid (hxY.blk HbbX.out)
    have hbg : g4 ≠ b := by have := Hg4.out; omega
    have hfree := blk_free HbY.out
    have hbY : b < Y.heap.size := (Array.getElem?_eq_some_iff.1 HbY.out).1
    have q0 : Y.cell? ⟨g4, 0, none⟩ = some (.string e.src) := blk_cell H4Y.out 0 rfl
    have q1 : Y.cell? ⟨g4, 1, none⟩ = some (.int .i64 e.num) := blk_cell H4Y.out 1 rfl
    have q2 : Y.cell? ⟨g4, 2, none⟩ = some (.int .i64 e.tick) := blk_cell H4Y.out 2 rfl
    have q3 : Y.cell? ⟨g4, 3, none⟩ = some (.int .i64 e.kind) := blk_cell H4Y.out 3 rfl
    have q4 : Y.cell? ⟨g4, 4, none⟩ = some (.string e.person) := blk_cell H4Y.out 4 rfl
    have q5 : Y.cell? ⟨g4, 5, none⟩ = some (.string e.item) := blk_cell H4Y.out 5 rfl
    have q6 : Y.cell? ⟨g4, 6, none⟩ = some (.int .i64 e.value) := blk_cell H4Y.out 6 rfl
    have q7 : Y.cell? ⟨g4, 7, none⟩ = some (.string e.text) := blk_cell H4Y.out 7 rfl
    have b1 : Y.cell? ⟨b, 1, none⟩ = some (.int .i64 N) := by rw [HN.out]; exact blk_cell HbY.out 1 rfl
    have b2 : Y.cell? ⟨b, 2, none⟩ = some (.string c.last.src) := blk_cell HbY.out 2 rfl
    have b3 : Y.cell? ⟨b, 3, none⟩ = some (.int .i64 c.last.num) := blk_cell HbY.out 3 rfl
    have b4 : Y.cell? ⟨b, 4, none⟩ = some (.int .i64 c.last.tick) := blk_cell HbY.out 4 rfl
    have b5 : Y.cell? ⟨b, 5, none⟩ = some (.int .i64 c.last.kind) := blk_cell HbY.out 5 rfl
    have b6 : Y.cell? ⟨b, 6, none⟩ = some (.string c.last.person) := blk_cell HbY.out 6 rfl
    have b7 : Y.cell? ⟨b, 7, none⟩ = some (.string c.last.item) := blk_cell HbY.out 7 rfl
    have b8 : Y.cell? ⟨b, 8, none⟩ = some (.int .i64 c.last.value) := blk_cell HbY.out 8 rfl
    have b9 : Y.cell? ⟨b, 9, none⟩ = some (.string c.last.text) := blk_cell HbY.out 9 rfl
    have HxY := Lib.hid hxY
    clear hxY
    go_upto_region 13 with fail
    obtain ⟨Z, hZ⟩ : ∃ Z, Z = ((((((((Y.setCell ⟨b, 1, none⟩ (.int .i64 (N + 1))).setCell ⟨b, 2, none⟩ (.string e.src)).setCell ⟨b, 3, none⟩ (.int .i64 e.num)).setCell ⟨b, 4, none⟩ (.int .i64 e.tick)).setCell ⟨b, 5, none⟩ (.int .i64 e.kind)).setCell ⟨b, 6, none⟩ (.string e.person)).setCell ⟨b, 7, none⟩ (.string e.item)).setCell ⟨b, 8, none⟩ (.int .i64 e.value)).setCell ⟨b, 9, none⟩ (.string e.text) := ⟨_, rfl⟩
    rw [← hZ]
    have hkZ : Keeps (fun g => g ≠ b) Y Z := by rw [hZ]; repeat (first | with_reducible exact Keeps.refl _ _ | with_reducible exact Keeps.refl _ _ | with_reducible refine Keeps.drew ?_ | with_reducible refine Keeps.drewN ?_ _ | with_reducible refine Keeps.alloc ?_ _ | with_reducible refine Keeps.setCell ?_ (by first | (intro h; simp at h; done) | (intro _; simp; done) | (intro _; simp; omega) | (intro h; simp at h; omega)) _)
    have hbZ : Z.heap[b]? = some (.cells (crdC { c with applied := c.applied + 1, last := e } hh) 139) := by
      rw [hZ]
      exact crd_last HbY.out (by rw [HN.out]; rfl)
    have hwY : Ext W0 Y := HxX.out.trans HxY.out
    obtain ⟨fp1, hc1, ht1⟩ := Hturn2.out Y hh f { c with applied := c.applied + 1, last := e } _ (Ob.ext HrX.out hwY) (Turned.of_ext hwY) rfl Z hbZ hkZ
    have H4Z := Lib.hid (hkZ.blk H4Y.out hbg)
    have HC1 := Lib.hid hc1
    have HT1 := Lib.hid ((Turned.of_ext Hx0.out).trans ht1)
    have hg4l := (Array.getElem?_eq_some_iff.1 Hgb0.out).1
    have h4fp : g4 ∉ fp1 := fun hm => by
      rcases ht1.grew g4 hm with h9 | h9
      · have := Hfl.out g4 h9; have := Hg4.out; omega
      · omega
    have H4fp := Lib.hid h4fp
    clear hZ hbZ hkZ ht1 hwY q0 q1 q2 q3 q4 q5 q6 q7 b1 b2 b3 b4 b5 b6 b7 b8 b9 hfree hbY hc1 h4fp
    have q0 : Z.cell? ⟨g4, 0, none⟩ = some (.string e.src) := blk_cell H4Z.out 0 rfl
    have q1 : Z.cell? ⟨g4, 1, none⟩ = some (.int .i64 e.num) := blk_cell H4Z.out 1 rfl
    have q2 : Z.cell? ⟨g4, 2, none⟩ = some (.int .i64 e.tick) := blk_cell H4Z.out 2 rfl
    have q3 : Z.cell? ⟨g4, 3, none⟩ = some (.int .i64 e.kind) := blk_cell H4Z.out 3 rfl
    have q4 : Z.cell? ⟨g4, 4, none⟩ = some (.string e.person) := blk_cell H4Z.out 4 rfl
    have q5 : Z.cell? ⟨g4, 5, none⟩ = some (.string e.item) := blk_cell H4Z.out 5 rfl
    have q6 : Z.cell? ⟨g4, 6, none⟩ = some (.int .i64 e.value) := blk_cell H4Z.out 6 rfl
    have q7 : Z.cell? ⟨g4, 7, none⟩ = some (.string e.text) := blk_cell H4Z.out 7 rfl
    have HsZ := Lib.hid (Hs.out.keep (HT1.out.keeps.mono (fun g _ hg => Hok.out g hg)))
    go_upto_region 14 with fail
    obtain ⟨g7, hg7⟩ : ∃ g, g = Z.heap.size := ⟨_, rfl⟩
    obtain ⟨Z1, hZ1⟩ : ∃ Z1, Z1 = Z.alloc (.cells #[.string e.src, .int .i64 e.num, .int .i64 e.tick, .int .i64 e.kind, .string e.person, .string e.item, .int .i64 e.value, .string e.text, .slice none 0 0] 167) := ⟨_, rfl⟩
    rw [← hZ1, ← hg7]
    have HD0 := Lib.hid (show DeedBox Z e g7 (tagsK (tags.take 0)) Z1 from ⟨⟨.slice none 0 0, by rw [hZ1, hg7]; exact blk_new _ _, Own.nil_⟩, by rw [hZ1]; exact (Keeps.refl _ _).alloc _⟩)
    have Hg7 := Lib.hid hg7
    obtain ⟨i0, hi0, hy0, hy1, hy2⟩ := info_of3 info_strD
    clear hZ1 hg7 q0 q1 q2 q3 q4 q5 q6 q7
    go_upto_block 1 with fail
    go_cut [] (fun wx => DeedBox Z e g7 (tagsK tags) wx)
    case first =>
      go_wp2_with fail
      go_loopw [9, 56] (fun _ i wr => ∃ k : Nat, k ≤ n ∧ i = .int .i64 k ∧ DeedBox Z e g7 (tagsK (tags.take k)) wr) (fun _ i _ => n - (intOf i).toNat)
      case atStart => exact ⟨0, Nat.zero_le _, rfl, HD0.out⟩
      case round =>
        obtain ⟨k, hk, rfl, hd⟩ := hrel
        have HD := Lib.hid hd
        obtain ⟨⟨v, hbx, hown⟩, hx⟩ := hd
        have Hown := Lib.hid hown
        have Hbx := Lib.hid hbx
        have Hx := Lib.hid hx
        by_cases hlt : k < n
        · obtain ⟨bs, os, s, rfl, hbs, _, hs1, hcs⟩ := (HsZ.out.ext hx).str hlt
          have Hs1 := Lib.hid hs1
          have HN1 := Lib.hid (event_Name s wr (by have := HT.out s (List.mem_of_getElem? hs1); unfold maxLen; omega))
          obtain ⟨A1, c1, rfl⟩ := hown.form
          obtain ⟨ts, hts⟩ : ∃ ts, ts = tagsK (tags.take k) := ⟨_, rfl⟩
          have Htn := Lib.hid (show tagsK (tags.take (k + 1)) = tagStep ts s by rw [hts]; exact tagsK_snoc hs1)
          have htl : ts.length ≤ 1000000 := by rw [hts]; have := tagsK_len (tags.take k); have h9 : (tags.take k).length ≤ k := List.length_take_le _ _; omega
          rw [← hts] at Hown Hbx
          have HC2 := Lib.hid (contains_str A1 ts.length c1 ts s (fun _ => True) wr (Hown.out.sl (fun _ _ _ _ => trivial) (fun _ _ _ => trivial)) (by unfold maxLen; omega))
          have e8 : wr.cell? ⟨g7, 8, none⟩ = some (.slice A1 ts.length c1) := blk_cell Hbx.out 8 rfl
          have hg7l : g7 < wr.heap.size := (Array.getElem?_eq_some_iff.1 Hbx.out).1
          have gfree := blk_free Hbx.out
          have j0 : (0 : Int) ≤ (k : Int) := by omega
          have j1 : (k : Int) < (n : Int) := by omega
          clear hbx hown hx hs1 hts
          cases hnm : nameB s
          · have He := Lib.hid (show DeedBox Z e g7 (tagsK (tags.take (k + 1))) wr by rw [Htn.out, show tagStep ts s = ts by unfold tagStep; rw [hnm]; rfl]; exact ⟨⟨_, Hbx.out, Hown.out⟩, Hx.out⟩)
            rw [hnm] at HN1
            clear hnm
            go_wp2_with (go_at_call 44; refine HN1.out.mono ?_; rintro _ _ ⟨rfl, rfl⟩)
            go_roundw
            case rel => exact ⟨k + 1, by omega, by go_num, He.out⟩
            case measure => simp [intOf]; omega
          · rw [hnm] at HN1
            cases hct : ts.any (fun y => s == y)
            · have Htt := Lib.hid (show tagsK (tags.take (k + 1)) = ts ++ [s] by rw [Htn.out]; unfold tagStep; rw [hnm, hct]; rfl)
              rw [hct] at HC2
              clear hnm hct
              go_wp2_with (first
                | (go_at_call 44; refine HN1.out.mono ?_; rintro _ _ ⟨rfl, rfl⟩)
                | (go_at_call 102; refine HC2.out.mono ?_; rintro _ _ ⟨rfl, rfl⟩)
                | (at_builtin; refine wpList_append_Own (ok := fun _ => True) (R := strR) _ rfl (.tmp 70) (.tmp 72) 34 rfl 9 i0 _ 16 (Z.heap.size + 1) Tryz.underlying34 hi0 hy0 hy1 hy2 rfl (by decide) rfl (Hown.out.ext (by repeat (first | with_reducible exact Keeps.refl _ _ | with_reducible refine Keeps.drew ?_ | with_reducible refine Keeps.drewN ?_ _ | with_reducible refine Keeps.alloc ?_ _))) _ 1 1 [s] rfl (Srcs.one_new rfl (blk_new _ _) rfl) (by omega) (by decide) (by have := Hx.out.size; have := Hg7.out; simp; omega) ?_; intro A5 c5 w5 hown5 hg5 hat5; have Hown5 := Lib.hid hown5; have hne : (Value.slice A1 ts.length c1).ownBlock ≠ some g7 := (fun h9 => by have := (Hown.out.lt g7 h9).1; have := Hg7.out; omega); have hb5 := (hg5.block g7 (by simp; omega) (fun h9 => hne h9.symm)).trans (blk_old Hbx.out _); have Hb5 := Lib.hid hb5; have e5 := blk_cell hb5 8 rfl; have gfree5 := blk_free hb5; have hg7l5 : g7 < w5.heap.size := (Array.getElem?_eq_some_iff.1 hb5).1; have Hx5 := Lib.hid (show Ext Z w5 from Keeps.grown (Hx.out.alloc _) hg5 (fun k9 hv9 hl9 _ => by have := (Hown.out.lt k9 hv9).1; omega)); clear hown5 hg5 hat5 hb5 hne))
              go_roundw
              case rel =>
                refine ⟨k + 1, by omega, by go_num, ?_⟩
                have hg7z : Z.heap.size ≤ g7 := by rw [Hg7.out]; exact Nat.le_refl _
                have h9 := blk_set Hb5.out 8 (.slice A5 (ts.length + 1) c5)
                simp only [List.setIfInBounds_toArray, List.set_cons_zero, List.set_cons_succ] at h9
                rw [Htt.out]
                refine ⟨⟨_, h9, ?_⟩, by repeat (first | with_reducible exact Hx5.out | with_reducible exact Keeps.refl _ _ | with_reducible refine Keeps.drew ?_ | with_reducible refine Keeps.drewN ?_ _ | with_reducible refine Keeps.alloc ?_ _ | with_reducible refine Keeps.setCell ?_ (by first | (intro h; simp at h; done) | (intro _; simp; done) | (intro _; simp; omega) | (intro h; simp at h; omega)) _)⟩
                rw [show (ts ++ [s]).length = ts.length + 1 by simp]
                exact Hown5.out.flat strR_flat (fun g hg => Below.heap_setCell _ _ _ _ (by have := (Hown5.out.lt g hg).1; have := Hg7.out; simp only; omega))
              case measure => simp [intOf]; omega
            · have He := Lib.hid (show DeedBox Z e g7 (tagsK (tags.take (k + 1))) wr by rw [Htn.out, show tagStep ts s = ts by unfold tagStep; rw [hnm, hct]; rfl]; exact ⟨⟨_, Hbx.out, Hown.out⟩, Hx.out⟩)
              rw [hct] at HC2
              clear hnm hct
              go_wp2_with (first
                | (go_at_call 44; refine HN1.out.mono ?_; rintro _ _ ⟨rfl, rfl⟩)
                | (go_at_call 102; refine HC2.out.mono ?_; rintro _ _ ⟨rfl, rfl⟩))
              go_roundw
              case rel => exact ⟨k + 1, by omega, by go_num, He.out⟩
              case measure => simp [intOf]; omega
        · obtain rfl : k = n := by omega
          have He := Lib.hid (show DeedBox Z e g7 (tagsK tags) wr by have h9 := HD.out; rwa [List.take_of_length_le (Nat.le_of_eq Hln.out)] at h9)
          clear hbx hown hx
          go_wp2_with fail
          go_meet
          exact He.out
    case rest =>
      obtain ⟨⟨v7, hb7, hown7⟩, hx7⟩ := hcut
      obtain ⟨Q, hQ⟩ : ∃ Q, Q = wc := ⟨_, rfl⟩
      rw [← hQ] at hb7 hown7 hx7 ⊢
      clear hQ
      obtain ⟨A7, c7, rfl⟩ := hown7.form
      obtain ⟨ts, hts⟩ : ∃ ts, ts = tagsK tags := ⟨_, rfl⟩
      rw [← hts] at hown7 hb7
      obtain ⟨hh1, f1, hbz, hr1, hff1, hbf1, _, _, hturn1, _⟩ := BoxAt.focus HC1.out
      obtain ⟨f2, hr2, hf12, hback⟩ := PairAt.focus1 hr1
      obtain ⟨v, fs, hrow, hvf, hmv, hlk, hput⟩ := rows_focus (K := (strK (P := Tryz.prog) (kt := 9) Tryz.underlying9)) hr2 e.person
      obtain ⟨l, hl⟩ : ∃ l, l = rowD c.people e.person := ⟨_, rfl⟩
      have hrow' : RowAt deedR 167 Z v fs l := by rw [hl]; exact hrow
      have hle := Hle.out
      rw [← hl] at hle
      obtain ⟨tf, htf⟩ : ∃ tf, tf = (Value.slice A7 ts.length c7).ownBlock.toList := ⟨_, rfl⟩
      have Htf := Lib.hid (show (∀ g ∈ tf, Z.heap.size ≤ g ∧ g < Q.heap.size) ∧ tf.Nodup by
        rw [htf]
        refine ⟨fun g hg => ?_, by cases (Value.slice A7 ts.length c7).ownBlock <;> simp⟩
        have h9 := hown7.lt g (by cases h8 : (Value.slice A7 ts.length c7).ownBlock with
          | none => rw [h8] at hg; simp at hg
          | some y => rw [h8] at hg; simp at hg; rw [hg])
        omega)
      have Hsl := Lib.hid (show Sl strR (off (fun g => g ∈ fs ++ tf) v) Q A7 ts.length ts from (Own.flat (ok' := fun _ => False) strR_flat hown7 (fun _ _ => rfl)).sl (fun g hb9 _ hg => ⟨List.mem_append.2 (.inr (by rw [htf, hg]; simp)), fun e9 => by have := (hrow'.own.lt g e9).2; omega⟩) (fun _ _ h => h.elim))
      have hcap : ts.length ≤ c7 := hown7.cap
      obtain ⟨i1, hi1, hz0, hz1, hz2⟩ := info_of3 info_deed
      have HxQ := Lib.hid hx7
      have HmZ := Lib.hid (MapOf.root (K := (strK (P := Tryz.prog) (kt := 9) Tryz.underlying9)) hr2)
      have L1 : (Instr.lookup 134 (.map (some hh1.1)) (.string e.person) false).run Tryz.prog Q.drew = .ok v Q.drew := hlk Tryz.underlying134 (zero_sd _) (Ext.keeps hx7.drew _)
      have L2 : (Instr.lookup 134 (.map (some hh1.1)) (.string e.person) false).run Tryz.prog (Q.drew.alloc (.cells #[.string e.src, .int .i64 e.num, .int .i64 e.tick, .int .i64 e.kind, .string e.person, .string e.item, .int .i64 e.value, .string e.text, .slice A7 ts.length c7] 167)) = .ok v (Q.drew.alloc (.cells #[.string e.src, .int .i64 e.num, .int .i64 e.tick, .int .i64 e.kind, .string e.person, .string e.item, .int .i64 e.value, .string e.text, .slice A7 ts.length c7] 167)) := hlk Tryz.underlying134 (zero_sd _) (Ext.keeps (hx7.drew.alloc _) _)
      have L2' : (Instr.lookup 134 (.map (some hh1.1)) (.string e.person) false).run Tryz.prog (Q.alloc (.cells #[.string e.src, .int .i64 e.num, .int .i64 e.tick, .int .i64 e.kind, .string e.person, .string e.item, .int .i64 e.value, .string e.text, .slice A7 ts.length c7] 167)).drew = .ok v (Q.alloc (.cells #[.string e.src, .int .i64 e.num, .int .i64 e.tick, .int .i64 e.kind, .string e.person, .string e.item, .int .i64 e.value, .string e.text, .slice A7 ts.length c7] 167)).drew := L2
      have HbQ := Lib.hid (hx7.blk hbz)
      have H4Q := Lib.hid (hx7.blk H4Z.out)
      have H7Q := Lib.hid hb7
      have HS := Lib.hid (fun (w' : World) (hk : Keeps (fun g => g = b ∨ g = g4 ∨ g = g7) Q w') => show w'.cell? ⟨b, 10, none⟩ = some (.map (some hh1.1)) ∧ w'.cell? ⟨g4, 4, none⟩ = some (.string e.person) ∧ w'.cell? ⟨g7, 0, none⟩ = some (.string e.src) ∧ w'.cell? ⟨g7, 1, none⟩ = some (.int .i64 e.num) ∧ w'.cell? ⟨g7, 2, none⟩ = some (.int .i64 e.tick) ∧ w'.cell? ⟨g7, 3, none⟩ = some (.int .i64 e.kind) ∧ w'.cell? ⟨g7, 4, none⟩ = some (.string e.person) ∧ w'.cell? ⟨g7, 5, none⟩ = some (.string e.item) ∧ w'.cell? ⟨g7, 6, none⟩ = some (.int .i64 e.value) ∧ w'.cell? ⟨g7, 7, none⟩ = some (.string e.text) ∧ w'.cell? ⟨g7, 8, none⟩ = some (.slice A7 ts.length c7) from
        ⟨blk_cell (hk.blk HbQ.out (.inl rfl)) 10 rfl, blk_cell (hk.blk H4Q.out (.inr (.inl rfl))) 4 rfl, blk_cell (hk.blk H7Q.out (.inr (.inr rfl))) 0 rfl, blk_cell (hk.blk H7Q.out (.inr (.inr rfl))) 1 rfl, blk_cell (hk.blk H7Q.out (.inr (.inr rfl))) 2 rfl, blk_cell (hk.blk H7Q.out (.inr (.inr rfl))) 3 rfl, blk_cell (hk.blk H7Q.out (.inr (.inr rfl))) 4 rfl, blk_cell (hk.blk H7Q.out (.inr (.inr rfl))) 5 rfl, blk_cell (hk.blk H7Q.out (.inr (.inr rfl))) 6 rfl, blk_cell (hk.blk H7Q.out (.inr (.inr rfl))) 7 rfl, blk_cell (hk.blk H7Q.out (.inr (.inr rfl))) 8 rfl⟩)
      have hzl := HC1.out.lt
      have Hfree := Lib.hid (fun (g : Nat) (hg : g = b ∨ g = g4 ∨ g = g7) => show g ∉ f2 from fun hm => by
        rcases hg with rfl | rfl | rfl
        · exact hbf1 (hf12 _ hm)
        · exact H4fp.out (hff1 _ (hf12 _ hm))
        · have := hzl _ (hff1 _ (hf12 _ hm)); have := Hg7.out; omega)
      have Hrow := Lib.hid hrow'
      have Hput := Lib.hid (fun (W : World) (v' : Value) (fs' : List Nat) (l' : List Deed) => hput Tryz.underlying134 W v' fs' l')
      have Hvf := Lib.hid hvf
      have Hback := Lib.hid hback
      have Hturn1 := Lib.hid hturn1
      have Hl := Lib.hid hl
      have Hts := Lib.hid hts
      have hbQ : b < Q.heap.size := (Array.getElem?_eq_some_iff.1 HbQ.out).1
      have h4Q : g4 < Q.heap.size := (Array.getElem?_eq_some_iff.1 H4Q.out).1
      have h7Q : g7 < Q.heap.size := (Array.getElem?_eq_some_iff.1 H7Q.out).1
      clear hrow hrow' hput hvf hback hturn1 hl hts hbz hr1 hff1 hbf1 hr2 hf12 hlk hmv hb7 hown7 htf hzl hx7
      go_upto_region 20 with fail
      refine wp_region_held_drew (S := fun w' => w'.cell? ⟨b, 10, none⟩ = some (.map (some hh1.1)) ∧ w'.cell? ⟨g4, 4, none⟩ = some (.string e.person) ∧ w'.cell? ⟨g7, 0, none⟩ = some (.string e.src) ∧ w'.cell? ⟨g7, 1, none⟩ = some (.int .i64 e.num) ∧ w'.cell? ⟨g7, 2, none⟩ = some (.int .i64 e.tick) ∧ w'.cell? ⟨g7, 3, none⟩ = some (.int .i64 e.kind) ∧ w'.cell? ⟨g7, 4, none⟩ = some (.string e.person) ∧ w'.cell? ⟨g7, 5, none⟩ = some (.string e.item) ∧ w'.cell? ⟨g7, 6, none⟩ = some (.int .i64 e.value) ∧ w'.cell? ⟨g7, 7, none⟩ = some (.string e.text) ∧ w'.cell? ⟨g7, 8, none⟩ = some (.slice A7 ts.length c7)) (by kernel_rfl) (by exact HS.out Q.drew ((Keeps.refl _ _).drew)) (fun hHeld => ?_)
      change wpAnyH _ _ _ _ _ _ #[false, false, false, false, false, false, false, false, false, false, false, false, false, false, false, false, false] _ _
      refine wpAnyH_take (i := 0) (oi := { dst := some 76, op := Go.Op.move (Go.Operand.tmp 0), type := 55, pos := "crowd.go:74", after := #[], guard := none }) (v := ?_) rfl (by kernel_rfl) (by kernel_rfl) (by kernel_rfl) (fun _ _ _ h => h) (Or.inl ⟨by rfl, ?_⟩) hHeld ?_
      rotate_left
      · intro w hSw
        (try dsimp only at hSw)
        go_simp
        all_goals (with_reducible rfl)
      try simp only [Act.put, List.setIfInBounds_toArray, List.set_cons_zero, List.set_cons_succ]
      refine wpAnyH_take (i := 1) (oi := { dst := some 77, op := Go.Op.nilCheck (Go.Operand.tmp 76), type := 0, pos := "crowd.go:74", after := #[{ on := 0, ground := Go.Ground.data }], guard := none }) (v := ?_) rfl (by kernel_rfl) (by kernel_rfl) (by kernel_rfl) (fun _ _ _ h => h) (Or.inl ⟨by rfl, ?_⟩) hHeld ?_
      rotate_left
      · intro w hSw
        (try dsimp only at hSw)
        go_simp
        all_goals (with_reducible rfl)
      try simp only [Act.put, List.setIfInBounds_toArray, List.set_cons_zero, List.set_cons_succ]
      refine wpAnyH_take (i := 2) (oi := { dst := some 78, op := Go.Op.fieldAddr 139 (Go.Operand.tmp 77) 3, type := 0, pos := "crowd.go:74", after := #[{ on := 1, ground := Go.Ground.data }], guard := none }) (v := ?_) rfl (by kernel_rfl) (by kernel_rfl) (by kernel_rfl) (fun _ _ _ h => h) (Or.inl ⟨by rfl, ?_⟩) hHeld ?_
      rotate_left
      · intro w hSw
        (try dsimp only at hSw)
        go_simp
        all_goals (with_reducible rfl)
      try simp only [Act.put, List.setIfInBounds_toArray, List.set_cons_zero, List.set_cons_succ]
      refine wpAnyH_take (i := 3) (oi := { dst := some 79, op := Go.Op.load 134 (Go.Operand.tmp 78), type := 134, pos := "crowd.go:74", after := #[{ on := 2, ground := Go.Ground.data }], guard := none }) (v := ?_) rfl (by kernel_rfl) (by kernel_rfl) (by kernel_rfl) (fun _ _ _ h => h) (Or.inl ⟨by rfl, ?_⟩) hHeld ?_
      rotate_left
      · intro w hSw
        (try dsimp only at hSw)
        go_simp
        all_goals (with_reducible rfl)
      try simp only [Act.put, List.setIfInBounds_toArray, List.set_cons_zero, List.set_cons_succ]
      refine wpAnyH_take (i := 4) (oi := { dst := some 80, op := Go.Op.fieldAddr 30 (Go.Operand.tmp 4) 4, type := 0, pos := "crowd.go:74", after := #[], guard := none }) (v := ?_) rfl (by kernel_rfl) (by kernel_rfl) (by kernel_rfl) (fun _ _ _ h => h) (Or.inl ⟨by rfl, ?_⟩) hHeld ?_
      rotate_left
      · intro w hSw
        (try dsimp only at hSw)
        go_simp
        all_goals (with_reducible rfl)
      try simp only [Act.put, List.setIfInBounds_toArray, List.set_cons_zero, List.set_cons_succ]
      refine wpAnyH_take (i := 5) (oi := { dst := some 81, op := Go.Op.load 9 (Go.Operand.tmp 80), type := 9, pos := "crowd.go:74", after := #[{ on := 4, ground := Go.Ground.data }], guard := none }) (v := ?_) rfl (by kernel_rfl) (by kernel_rfl) (by kernel_rfl) (fun _ _ _ h => h) (Or.inl ⟨by rfl, ?_⟩) hHeld ?_
      rotate_left
      · intro w hSw
        (try dsimp only at hSw)
        go_simp
        all_goals (with_reducible rfl)
      try simp only [Act.put, List.setIfInBounds_toArray, List.set_cons_zero, List.set_cons_succ]
      refine wpAnyH_take (i := 6) (oi := { dst := some 82, op := Go.Op.move (Go.Operand.tmp 0), type := 55, pos := "crowd.go:74", after := #[], guard := none }) (v := ?_) rfl (by kernel_rfl) (by kernel_rfl) (by kernel_rfl) (fun _ _ _ h => h) (Or.inl ⟨by rfl, ?_⟩) hHeld ?_
      rotate_left
      · intro w hSw
        (try dsimp only at hSw)
        go_simp
        all_goals (with_reducible rfl)
      try simp only [Act.put, List.setIfInBounds_toArray, List.set_cons_zero, List.set_cons_succ]
      refine wpAnyH_take (i := 7) (oi := { dst := some 83, op := Go.Op.nilCheck (Go.Operand.tmp 82), type := 0, pos := "crowd.go:74", after := #[{ on := 6, ground := Go.Ground.data }], guard := none }) (v := ?_) rfl (by kernel_rfl) (by kernel_rfl) (by kernel_rfl) (fun _ _ _ h => h) (Or.inl ⟨by rfl, ?_⟩) hHeld ?_
      rotate_left
      · intro w hSw
        (try dsimp only at hSw)
        go_simp
        all_goals (with_reducible rfl)
      try simp only [Act.put, List.setIfInBounds_toArray, List.set_cons_zero, List.set_cons_succ]
      refine wpAnyH_take (i := 8) (oi := { dst := some 84, op := Go.Op.fieldAddr 139 (Go.Operand.tmp 83) 3, type := 0, pos := "crowd.go:74", after := #[{ on := 7, ground := Go.Ground.data }], guard := none }) (v := ?_) rfl (by kernel_rfl) (by kernel_rfl) (by kernel_rfl) (fun _ _ _ h => h) (Or.inl ⟨by rfl, ?_⟩) hHeld ?_
      rotate_left
      · intro w hSw
        (try dsimp only at hSw)
        go_simp
        all_goals (with_reducible rfl)
      try simp only [Act.put, List.setIfInBounds_toArray, List.set_cons_zero, List.set_cons_succ]
      refine wpAnyH_take (i := 9) (oi := { dst := some 85, op := Go.Op.load 134 (Go.Operand.tmp 84), type := 134, pos := "crowd.go:74", after := #[{ on := 8, ground := Go.Ground.data }], guard := none }) (v := ?_) rfl (by kernel_rfl) (by kernel_rfl) (by kernel_rfl) (fun _ _ _ h => h) (Or.inl ⟨by rfl, ?_⟩) hHeld ?_
      rotate_left
      · intro w hSw
        (try dsimp only at hSw)
        go_simp
        all_goals (with_reducible rfl)
      try simp only [Act.put, List.setIfInBounds_toArray, List.set_cons_zero, List.set_cons_succ]
      refine wpAnyH_take (i := 10) (oi := { dst := some 86, op := Go.Op.fieldAddr 30 (Go.Operand.tmp 4) 4, type := 0, pos := "crowd.go:74", after := #[], guard := none }) (v := ?_) rfl (by kernel_rfl) (by kernel_rfl) (by kernel_rfl) (fun _ _ _ h => h) (Or.inl ⟨by rfl, ?_⟩) hHeld ?_
      rotate_left
      · intro w hSw
        (try dsimp only at hSw)
        go_simp
        all_goals (with_reducible rfl)
      try simp only [Act.put, List.setIfInBounds_toArray, List.set_cons_zero, List.set_cons_succ]
      refine wpAnyH_take (i := 11) (oi := { dst := some 87, op := Go.Op.load 9 (Go.Operand.tmp 86), type := 9, pos := "crowd.go:74", after := #[{ on := 10, ground := Go.Ground.data }], guard := none }) (v := ?_) rfl (by kernel_rfl) (by kernel_rfl) (by kernel_rfl) (fun _ _ _ h => h) (Or.inl ⟨by rfl, ?_⟩) hHeld ?_
      rotate_left
      · intro w hSw
        (try dsimp only at hSw)
        go_simp
        all_goals (with_reducible rfl)
      try simp only [Act.put, List.setIfInBounds_toArray, List.set_cons_zero, List.set_cons_succ]
      refine wpAnyH_take (i := 13) (oi := { dst := some 89, op := Go.Op.load 167 (Go.Operand.tmp 7), type := 167, pos := "crowd.go:74", after := #[], guard := none }) (v := ?_) rfl (by kernel_rfl) (by kernel_rfl) (by kernel_rfl) (fun _ _ _ h => h) (Or.inl ⟨by rfl, ?_⟩) hHeld ?_
      rotate_left
      · intro w hSw
        (try dsimp only at hSw)
        go_simp
        all_goals (with_reducible rfl)
      try simp only [Act.put, List.setIfInBounds_toArray, List.set_cons_zero, List.set_cons_succ]
      refine meet_ (G := ?G) (fun hMeet => ?main) ?last
      case main =>
        refine wpAnyH_ready (rs := [12, 14]) (by kernel_rfl) (by simp) ?_
        refine (AllReadyH.cons (o := { dst := some 88, op := Go.Op.lookup 134 (Go.Operand.tmp 85) (Go.Operand.tmp 87) false, type := 168, pos := "crowd.go:74", after := #[{ on := 9, ground := Go.Ground.data }, { on := 11, ground := Go.Ground.data }], guard := none }) rfl (fun K hK => ?_) (AllReadyH.cons (o := { dst := some 90, op := Go.Op.buildSlice 168 1 #[(0, Go.Operand.tmp 89)], type := 168, pos := "crowd.go:74", after := #[{ on := 13, ground := Go.Ground.data }], guard := none }) rfl (fun K hK => ?_) AllReadyH.nil))
        · go_simp
          refine hK.out _ _ (by exact HS.out _ (by repeat (first | with_reducible exact Keeps.refl _ _ | with_reducible exact hk5 | with_reducible exact hk6 | with_reducible refine Keeps.drew ?_ | with_reducible refine Keeps.alloc ?_ _))) (fun hHeld => ?_)
          clear hK K
          try simp only [List.setIfInBounds_toArray, List.set_cons_zero, List.set_cons_succ]
          refine wpAnyH_ready (rs := [14]) (by kernel_rfl) (by simp) ?_
          refine (AllReadyH.cons (o := { dst := some 90, op := Go.Op.buildSlice 168 1 #[(0, Go.Operand.tmp 89)], type := 168, pos := "crowd.go:74", after := #[{ on := 13, ground := Go.Ground.data }], guard := none }) rfl (fun K hK => ?_) AllReadyH.nil)
          · go_simp
            refine hK.out _ _ (by exact HS.out _ (by repeat (first | with_reducible exact Keeps.refl _ _ | with_reducible exact hk5 | with_reducible exact hk6 | with_reducible refine Keeps.drew ?_ | with_reducible refine Keeps.alloc ?_ _))) (fun hHeld => ?_)
            clear hK K
            try simp only [List.setIfInBounds_toArray, List.set_cons_zero, List.set_cons_succ]
            exact hMeet
        · go_simp
          refine hK.out _ _ (by exact HS.out _ (by repeat (first | with_reducible exact Keeps.refl _ _ | with_reducible exact hk5 | with_reducible exact hk6 | with_reducible refine Keeps.drew ?_ | with_reducible refine Keeps.alloc ?_ _))) (fun hHeld => ?_)
          clear hK K
          try simp only [List.setIfInBounds_toArray, List.set_cons_zero, List.set_cons_succ]
          refine wpAnyH_ready (rs := [12]) (by kernel_rfl) (by simp) ?_
          refine (AllReadyH.cons (o := { dst := some 88, op := Go.Op.lookup 134 (Go.Operand.tmp 85) (Go.Operand.tmp 87) false, type := 168, pos := "crowd.go:74", after := #[{ on := 9, ground := Go.Ground.data }, { on := 11, ground := Go.Ground.data }], guard := none }) rfl (fun K hK => ?_) AllReadyH.nil)
          · go_simp
            refine hK.out _ _ (by exact HS.out _ (by repeat (first | with_reducible exact Keeps.refl _ _ | with_reducible exact hk5 | with_reducible exact hk6 | with_reducible refine Keeps.drew ?_ | with_reducible refine Keeps.alloc ?_ _))) (fun hHeld => ?_)
            clear hK K
            try simp only [List.setIfInBounds_toArray, List.set_cons_zero, List.set_cons_succ]
            exact hMeet
      case last =>
        refine wpAnyH_ready (rs := [15]) (by kernel_rfl) (by simp) ?_
        refine (AllReadyH.cons (o := { dst := some 91, op := Go.Op.call { callee := Go.Callee.builtin Go.Builtin.append, args := #[Go.Operand.tmp 88, Go.Operand.tmp 90], argTypes := #[168, 168] }, type := 168, pos := "crowd.go:74", after := #[{ on := 12, ground := Go.Ground.data }, { on := 14, ground := Go.Ground.data }], guard := none }) rfl (fun K hK => ?_) AllReadyH.nil)
        refine step_append_Own (ok := fun g => g ∈ fs ++ tf) (R := deedR) _ (by rfl) (.tmp 88) (.tmp 90) 168 (by rfl) 167 i1 _ 120 0 Tryz.underlying168 hi1 hz0 hz1 hz2 rfl (by decide) (by rfl) ((Hrow.out.own.mono (ok' := fun g => g ∈ fs ++ tf) (fun k _ h => List.mem_append.2 (.inl h))).ext (by repeat (first | with_reducible exact HxQ.out | with_reducible refine Keeps.drew ?_ | with_reducible refine Keeps.alloc ?_ _))) _ 1 1 [⟨e, ts⟩] (by rfl) (Srcs.one_new ⟨A7, c7, rfl, hcap, Hsl.out.ext (by repeat (first | with_reducible exact Keeps.refl _ _ | with_reducible refine Keeps.drew ?_ | with_reducible refine Keeps.alloc ?_ _))⟩ (blk_new _ _) rfl) (by omega) (by decide) (Nat.zero_le _) ?_; intro A5 c5 w5 hown5 hg5 hat5; obtain ⟨hrow5, ht5⟩ := RowAt.app Hrow.out (by repeat (first | with_reducible exact HxQ.out | with_reducible refine Keeps.drew ?_ | with_reducible refine Keeps.alloc ?_ _)) hown5 hg5 hat5 (fun g hg => ⟨(Htf.out.1 g hg).1, by have := (Htf.out.1 g hg).2; simp; omega⟩) Htf.out.2; obtain ⟨W6, f6, P6, hmo6, ht6, hk9⟩ := Hput.out w5 _ _ _ hrow5 ht5; have P6' : (Instr.mapUpdate 134 (.map (some hh1.1)) (.string e.person) (.slice A5 (l.length + 1) c5)).run Tryz.prog w5 = .ok () W6 := P6; have hk5 : Keeps (fun g => g = b ∨ g = g4 ∨ g = g7) Q w5 := Keeps.grown (by repeat (first | with_reducible exact Keeps.refl _ _ | with_reducible refine Keeps.drew ?_ | with_reducible refine Keeps.alloc ?_ _)) hg5 (fun g hv _ hg => Hfree.out g hg (Hvf.out g (List.mem_append.2 (.inl (by rw [hv]; simp))))); have hk6 : Keeps (fun g => g = b ∨ g = g4 ∨ g = g7) Q W6 := hk5.then_ hk9 (fun g _ hg e => Hfree.out g hg (by rw [e]; exact HmZ.out))
        refine hK.out _ _ (by exact HS.out _ (by repeat (first | with_reducible exact Keeps.refl _ _ | with_reducible exact hk5 | with_reducible exact hk6 | with_reducible refine Keeps.drew ?_ | with_reducible refine Keeps.alloc ?_ _))) (fun hHeld => ?_)
        clear hK K
        try simp only [Act.put, List.setIfInBounds_toArray, List.set_cons_zero, List.set_cons_succ]
        refine wpAnyH_ready (rs := [16]) (by kernel_rfl) (by simp) ?_
        refine (AllReadyH.cons (o := { dst := none, op := Go.Op.mapUpdate 134 (Go.Operand.tmp 79) (Go.Operand.tmp 81) (Go.Operand.tmp 91), type := 0, pos := "crowd.go:74", after := #[{ on := 3, ground := Go.Ground.data }, { on := 5, ground := Go.Ground.data }, { on := 15, ground := Go.Ground.data }, { on := 15, ground := Go.Ground.chain }, { on := 0, ground := Go.Ground.phase }, { on := 1, ground := Go.Ground.phase }, { on := 2, ground := Go.Ground.phase }, { on := 3, ground := Go.Ground.phase }, { on := 4, ground := Go.Ground.phase }, { on := 5, ground := Go.Ground.phase }, { on := 6, ground := Go.Ground.phase }, { on := 7, ground := Go.Ground.phase }, { on := 8, ground := Go.Ground.phase }, { on := 9, ground := Go.Ground.phase }, { on := 10, ground := Go.Ground.phase }, { on := 11, ground := Go.Ground.phase }, { on := 12, ground := Go.Ground.phase }, { on := 13, ground := Go.Ground.phase }, { on := 14, ground := Go.Ground.phase }, { on := 15, ground := Go.Ground.phase }], guard := none }) rfl (fun K hK => ?_) AllReadyH.nil)
        go_simp
        refine hK.out _ _ (by exact HS.out _ (by repeat (first | with_reducible exact Keeps.refl _ _ | with_reducible exact hk5 | with_reducible exact hk6 | with_reducible refine Keeps.drew ?_ | with_reducible refine Keeps.alloc ?_ _))) (fun hHeld => ?_)
        clear hK K
        try simp only [List.setIfInBounds_toArray, List.set_cons_zero, List.set_cons_succ]
        refine wpAnyH_done (by kernel_rfl) ?_ _
        obtain ⟨f7, hr7, ht7⟩ := Hback.out W6 _ _ _ hmo6 ht6
        obtain ⟨fp7, hc7, ht8⟩ := Hturn1.out W6 f7 (crdPut c e tags) (by have h9 := hr7; rw [show (l ++ [⟨e, ts⟩] : List Deed) = rowD c.people e.person ++ [⟨e, tagsK tags⟩] by rw [Hl.out, Hts.out]] at h9; exact h9) ht7 rfl
        have HN := Lib.hid (crd_note b fp7 (crdPut c e tags) e W6 hc7 Hk0.out Hk1.out Hsh.out.1 Hsh.out.2 Hfa.out.1 Hfa.out.2)
        have Ht8 := Lib.hid (HT1.out.trans ht8)
        have H46 := Lib.hid (hk6.blk H4Q.out (.inr (.inl rfl)))
        clear hHeld hown5 hg5 hat5 hrow5 ht5 P6 P6' hmo6 ht6 hk9 hk5 hk6 hr7 ht7 hc7 ht8
        have q0 : W6.cell? ⟨g4, 0, none⟩ = some (.string e.src) := blk_cell H46.out 0 rfl
        have q1 : W6.cell? ⟨g4, 1, none⟩ = some (.int .i64 e.num) := blk_cell H46.out 1 rfl
        have q2 : W6.cell? ⟨g4, 2, none⟩ = some (.int .i64 e.tick) := blk_cell H46.out 2 rfl
        have q3 : W6.cell? ⟨g4, 3, none⟩ = some (.int .i64 e.kind) := blk_cell H46.out 3 rfl
        have q4 : W6.cell? ⟨g4, 4, none⟩ = some (.string e.person) := blk_cell H46.out 4 rfl
        have q5 : W6.cell? ⟨g4, 5, none⟩ = some (.string e.item) := blk_cell H46.out 5 rfl
        have q6 : W6.cell? ⟨g4, 6, none⟩ = some (.int .i64 e.value) := blk_cell H46.out 6 rfl
        have q7 : W6.cell? ⟨g4, 7, none⟩ = some (.string e.text) := blk_cell H46.out 7 rfl
        go_wp2_with (go_at_call 103; refine HN.out.mono ?_; rintro _ w8 ⟨rfl, fp8, hc8, ht9⟩)
        go_ret
        exact ⟨rfl, fp8, hc8, Ht8.out.trans ht9⟩
end Go.Proofs.YtpkkkhgmkndpdaaGreatDoor
